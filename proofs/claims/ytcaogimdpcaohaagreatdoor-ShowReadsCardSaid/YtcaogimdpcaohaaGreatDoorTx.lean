/- The texts of a seat's functions in the small interpreter's words, each with its check against the loaded program. Printed by program. -/
import Derived.Test.YtcaogimdpcaohaaGreatDoorLvD
import Derived.Test.YtcaogimdpcaohaaGreatDoorProg
set_option linter.unusedVariables false
set_option linter.unusedSimpArgs false
set_option linter.constructorNameAsVariable false

namespace Go.Lev.Seat
open Go Go.Lev
set_option maxRecDepth 100000
/-- The loaded program. -/
noncomputable abbrev P0 : Program := Go.Proofs.Tryz.prog
def pf : Nat → Bool := fun f => [3, 4, 5, 6, 7, 8, 9, 10, 11, 12, 13, 14, 15, 16, 17, 18, 19, 20, 21, 22, 23, 24, 25, 27, 28, 29, 31, 32, 33, 34, 35, 37, 38, 40, 41, 43, 44, 45, 46, 50, 51, 52, 53, 54, 56, 57, 58, 63, 64, 65, 66, 67, 77, 79, 80, 81, 82, 83, 87, 88].any (· == f)
abbrev n_strconv_ParseInt : Nat := 30
abbrev n_strconv_FormatInt : Nat := 31
abbrev n_strings_Join : Nat := 38
abbrev n_strings_Cut : Nat := 40
abbrev n_strings_Contains : Nat := 67
abbrev n_strconv_Itoa : Nat := 82
/-- undertow/undertowlaw09.ShowTexts -/
abbrev n_law09_ShowTexts : Nat := 3
def L_law09_ShowTexts : LFn := ⟨35, (.seq (.region [⟨none, some 1, .box (.tmp 0)⟩,
  ⟨none, some 2, .mv (.const (.bool false))⟩])
 (.seq (.seq (.region [⟨none, some 5, .call (.func 5) []⟩,
  ⟨none, some 6, .un .not (.tmp 5)⟩])
 (.cond (.tmp 6) (.seq (.region [⟨none, some 2, .mv (.const (.bool false))⟩])
 .ret) .skip))
 (.seq (.region [⟨none, some 8, .loadN 9 (.tmp 1)⟩,
  ⟨none, some 9, .call (.func 6) [(.tmp 8)]⟩,
  ⟨none, some 7, .mv (.tmp 9)⟩,
  ⟨none, some 10, .ext (.tmp 7) 0⟩,
  ⟨none, some 11, .ext (.tmp 7) 1⟩,
  ⟨none, some 3, .mv (.tmp 10)⟩,
  ⟨none, some 4, .mv (.tmp 11)⟩])
 (.seq (.seq (.region [⟨none, some 12, .loadN 9 (.tmp 1)⟩,
  ⟨none, some 13, .call (.func 7) [(.tmp 12)]⟩,
  ⟨none, some 14, .un .not (.tmp 13)⟩])
 (.cond (.tmp 14) (.seq (.region [⟨none, some 15, .call (.func 5) []⟩,
  ⟨none, some 16, .mv (.tmp 15)⟩,
  ⟨some (16, true), some 17, .mv (.tmp 3)⟩,
  ⟨some (16, true), some 18, .bin .eql (.tmp 17) (.const (.string ⟨#[]⟩))⟩,
  ⟨none, some 19, .pick (.tmp 16) (.tmp 18) (.const (.bool false))⟩,
  ⟨none, some 20, .mv (.tmp 19)⟩,
  ⟨some (20, true), some 21, .mv (.tmp 4)⟩,
  ⟨some (20, true), some 22, .bin .eql (.tmp 21) (.const (.int .i64 1))⟩,
  ⟨none, some 23, .pick (.tmp 20) (.tmp 22) (.const (.bool false))⟩,
  ⟨none, some 2, .mv (.tmp 23)⟩])
 .ret) .skip))
 (.seq (.region [⟨none, some 24, .call (.func 5) []⟩,
  ⟨none, some 25, .mv (.tmp 24)⟩,
  ⟨some (25, true), some 26, .mv (.tmp 4)⟩,
  ⟨some (25, true), some 27, .bin .eql (.tmp 26) (.const (.int .i64 0))⟩,
  ⟨none, some 28, .pick (.tmp 25) (.tmp 27) (.const (.bool false))⟩,
  ⟨none, some 29, .mv (.tmp 28)⟩,
  ⟨some (29, true), some 30, .mv (.tmp 3)⟩,
  ⟨some (29, true), some 31, .loadN 9 (.tmp 1)⟩,
  ⟨some (29, true), some 32, .call (.func 8) [(.tmp 31)]⟩,
  ⟨some (29, true), some 33, .bin .eql (.tmp 30) (.tmp 32)⟩,
  ⟨none, some 34, .pick (.tmp 29) (.tmp 33) (.const (.bool false))⟩,
  ⟨none, some 2, .mv (.tmp 34)⟩])
 .ret))))),
 [.tmp 2]⟩
theorem c_law09_ShowTexts : compF P0 pf Go.Proofs.Tryz.f3 = some L_law09_ShowTexts := by kernel_rfl
/-- undertow/undertowlaw09.ShowReads -/
abbrev n_law09_ShowReads : Nat := 4
def L_law09_ShowReads : LFn := ⟨44, (.seq (.region [⟨none, some 2, .mv (.const (.bool false))⟩])
 (.seq (.seq (.region [⟨none, some 7, .call (.func 5) []⟩,
  ⟨none, some 8, .un .not (.tmp 7)⟩])
 (.cond (.tmp 8) (.seq (.region [⟨none, some 2, .mv (.const (.bool false))⟩])
 .ret) .skip))
 (.seq (.seq (.region [⟨none, some 9, .mv (.tmp 0)⟩,
  ⟨none, some 10, .lenT (.tmp 9)⟩,
  ⟨none, some 11, .bin .gtr (.tmp 10) (.const (.int .i64 200))⟩])
 (.cond (.tmp 11) (.seq (.region [⟨none, some 12, .call (.func 5) []⟩,
  ⟨none, some 2, .mv (.tmp 12)⟩])
 .ret) .skip))
 (.seq (.region [⟨none, some 14, .mv (.tmp 0)⟩,
  ⟨none, some 15, .call (.func 9) [(.tmp 14)]⟩,
  ⟨none, some 13, .mv (.tmp 15)⟩,
  ⟨none, some 16, .ext (.tmp 13) 0⟩,
  ⟨none, some 17, .ext (.tmp 13) 1⟩,
  ⟨none, some 3, .alloc [.int .i64 0, .int .i64 0, .int .i64 0, .int .i64 0, .int .i64 0, .bool false, .bool false, .int .i64 0, .int .i64 0]⟩,
  ⟨none, none, .store 9 (.tmp 3) (.tmp 16)⟩,
  ⟨none, some 4, .mv (.tmp 17)⟩])
 (.seq (.region [⟨none, some 19, .mv (.tmp 0)⟩,
  ⟨none, some 20, .call (.func 10) [(.tmp 19)]⟩,
  ⟨none, some 18, .mv (.tmp 20)⟩,
  ⟨none, some 21, .ext (.tmp 18) 0⟩,
  ⟨none, some 22, .ext (.tmp 18) 1⟩,
  ⟨none, some 5, .alloc [.int .i64 0, .int .i64 0, .int .i64 0, .int .i64 0, .int .i64 0, .bool false, .bool false, .int .i64 0, .int .i64 0]⟩,
  ⟨none, none, .store 9 (.tmp 5) (.tmp 21)⟩,
  ⟨none, some 6, .mv (.tmp 22)⟩])
 (.seq (.region [⟨none, some 23, .call (.func 5) []⟩,
  ⟨none, some 24, .mv (.tmp 23)⟩,
  ⟨some (24, true), some 25, .loadN 9 (.tmp 3)⟩,
  ⟨some (24, true), some 26, .loadN 9 (.tmp 5)⟩,
  ⟨some (24, true), some 27, .eqA [(0, 0), (1, 0), (2, 0), (3, 0), (4, 0), (5, 1), (6, 1), (7, 0), (8, 0)] false (.tmp 25) (.tmp 26)⟩,
  ⟨none, some 28, .pick (.tmp 24) (.tmp 27) (.const (.bool false))⟩,
  ⟨none, some 29, .mv (.tmp 28)⟩,
  ⟨some (29, true), some 30, .mv (.tmp 6)⟩,
  ⟨some (29, true), some 31, .mv (.tmp 30)⟩,
  ⟨some (31, true), some 32, .mv (.tmp 4)⟩,
  ⟨some (31, true), some 33, .bin .eql (.tmp 32) (.const (.int .i64 0))⟩,
  ⟨some (29, true), some 34, .pick (.tmp 31) (.tmp 33) (.const (.bool false))⟩,
  ⟨some (29, true), some 35, .mv (.tmp 34)⟩,
  ⟨some (35, false), some 36, .mv (.tmp 6)⟩,
  ⟨some (35, false), some 37, .un .not (.tmp 36)⟩,
  ⟨some (35, false), some 38, .mv (.tmp 37)⟩,
  ⟨some (38, true), some 39, .mv (.tmp 4)⟩,
  ⟨some (38, true), some 40, .bin .eql (.tmp 39) (.const (.int .i64 5))⟩,
  ⟨some (35, false), some 41, .pick (.tmp 38) (.tmp 40) (.const (.bool false))⟩,
  ⟨some (29, true), some 42, .pick (.tmp 35) (.const (.bool true)) (.tmp 41)⟩,
  ⟨none, some 43, .pick (.tmp 29) (.tmp 42) (.const (.bool false))⟩,
  ⟨none, some 2, .mv (.tmp 43)⟩])
 .ret)))))),
 [.tmp 2]⟩
theorem c_law09_ShowReads : compF P0 pf Go.Proofs.Tryz.f4 = some L_law09_ShowReads := by kernel_rfl
/-- undertow/undertowlaw09.alive -/
abbrev n_law09_alive : Nat := 5
def L_law09_alive : LFn := ⟨55, (.seq (.region [⟨none, some 0, .mv (.const (.bool false))⟩])
 (.seq (.region [⟨none, some 10, .build [.int .i64 0, .int .i64 0, .int .i64 0, .int .i64 0, .int .i64 0, .bool false, .bool false, .int .i64 0, .int .i64 0] [(0, 1, (.const (.int .i64 13))), (1, 1, (.const (.int .i64 5))), (2, 1, (.const (.int .i64 2))), (4, 1, (.const (.int .i64 (-8))))]⟩,
  ⟨none, some 11, .call (.func 6) [(.tmp 10)]⟩,
  ⟨none, some 9, .mv (.tmp 11)⟩,
  ⟨none, some 12, .ext (.tmp 9) 0⟩,
  ⟨none, some 13, .ext (.tmp 9) 1⟩,
  ⟨none, some 1, .mv (.tmp 12)⟩,
  ⟨none, some 2, .mv (.tmp 13)⟩])
 (.seq (.region [⟨none, some 15, .call (.func 9) [(.const (.string ⟨#[102, 101, 110, 99, 101, 32, 114, 119, 44, 32, 119]⟩))]⟩,
  ⟨none, some 14, .mv (.tmp 15)⟩,
  ⟨none, some 16, .ext (.tmp 14) 0⟩,
  ⟨none, some 17, .ext (.tmp 14) 1⟩,
  ⟨none, some 3, .alloc [.int .i64 0, .int .i64 0, .int .i64 0, .int .i64 0, .int .i64 0, .bool false, .bool false, .int .i64 0, .int .i64 0]⟩,
  ⟨none, none, .store 9 (.tmp 3) (.tmp 16)⟩,
  ⟨none, some 4, .mv (.tmp 17)⟩])
 (.seq (.region [⟨none, some 19, .call (.func 11) [(.const (.string ⟨#[45, 55]⟩))]⟩,
  ⟨none, some 18, .mv (.tmp 19)⟩,
  ⟨none, some 20, .ext (.tmp 18) 0⟩,
  ⟨none, some 21, .ext (.tmp 18) 1⟩,
  ⟨none, some 5, .mv (.tmp 20)⟩,
  ⟨none, some 6, .mv (.tmp 21)⟩])
 (.seq (.region [⟨none, some 23, .call (.func 12) [(.const (.string ⟨#[120, 51, 49]⟩))]⟩,
  ⟨none, some 22, .mv (.tmp 23)⟩,
  ⟨none, some 24, .ext (.tmp 22) 0⟩,
  ⟨none, some 25, .ext (.tmp 22) 1⟩,
  ⟨none, some 7, .mv (.tmp 24)⟩,
  ⟨none, some 8, .mv (.tmp 25)⟩])
 (.seq (.region [⟨none, some 26, .mv (.tmp 2)⟩,
  ⟨none, some 27, .bin .eql (.tmp 26) (.const (.int .i64 0))⟩,
  ⟨none, some 28, .mv (.tmp 27)⟩,
  ⟨some (28, true), some 29, .mv (.tmp 4)⟩,
  ⟨some (28, true), some 30, .bin .eql (.tmp 29) (.const (.int .i64 0))⟩,
  ⟨none, some 31, .pick (.tmp 28) (.tmp 30) (.const (.bool false))⟩,
  ⟨none, some 32, .mv (.tmp 31)⟩,
  ⟨some (32, true), some 33, .mv (.tmp 1)⟩,
  ⟨some (32, true), some 34, .bin .eql (.tmp 33) (.const (.string ⟨#[108, 119, 32, 120, 53, 44, 32, 45, 56, 40, 120, 50, 41]⟩))⟩,
  ⟨none, some 35, .pick (.tmp 32) (.tmp 34) (.const (.bool false))⟩,
  ⟨none, some 36, .mv (.tmp 35)⟩,
  ⟨some (36, true), some 37, .loadN 9 (.tmp 3)⟩,
  ⟨some (36, true), some 38, .build [.int .i64 0, .int .i64 0, .int .i64 0, .int .i64 0, .int .i64 0, .bool false, .bool false, .int .i64 0, .int .i64 0] [(0, 1, (.const (.int .i64 50))), (7, 1, (.const (.int .i64 3))), (8, 1, (.const (.int .i64 1)))]⟩,
  ⟨some (36, true), some 39, .eqA [(0, 0), (1, 0), (2, 0), (3, 0), (4, 0), (5, 1), (6, 1), (7, 0), (8, 0)] false (.tmp 37) (.tmp 38)⟩,
  ⟨none, some 40, .pick (.tmp 36) (.tmp 39) (.const (.bool false))⟩,
  ⟨none, some 41, .mv (.tmp 40)⟩,
  ⟨some (41, true), some 42, .mv (.tmp 6)⟩,
  ⟨none, some 43, .pick (.tmp 41) (.tmp 42) (.const (.bool false))⟩,
  ⟨none, some 44, .mv (.tmp 43)⟩,
  ⟨some (44, true), some 45, .mv (.tmp 8)⟩,
  ⟨none, some 46, .pick (.tmp 44) (.tmp 45) (.const (.bool false))⟩,
  ⟨none, some 47, .mv (.tmp 46)⟩,
  ⟨some (47, true), some 48, .mv (.tmp 5)⟩,
  ⟨some (47, true), some 49, .bin .eql (.tmp 48) (.const (.int .i64 (-7)))⟩,
  ⟨none, some 50, .pick (.tmp 47) (.tmp 49) (.const (.bool false))⟩,
  ⟨none, some 51, .mv (.tmp 50)⟩,
  ⟨some (51, true), some 52, .mv (.tmp 7)⟩,
  ⟨some (51, true), some 53, .bin .eql (.tmp 52) (.const (.int .i64 31))⟩,
  ⟨none, some 54, .pick (.tmp 51) (.tmp 53) (.const (.bool false))⟩,
  ⟨none, some 0, .mv (.tmp 54)⟩])
 .ret)))))),
 [.tmp 0]⟩
theorem c_law09_alive : compF P0 pf Go.Proofs.Tryz.f5 = some L_law09_alive := by kernel_rfl
/-- undertow/show.Text -/
abbrev n_show_Text : Nat := 6
def L_show_Text : LFn := ⟨9, (.seq (.region [⟨none, some 1, .box (.tmp 0)⟩,
  ⟨none, some 2, .mv (.const (.string ⟨#[]⟩))⟩,
  ⟨none, some 3, .mv (.const (.int .i64 0))⟩])
 (.seq (.seq (.region [⟨none, some 4, .loadN 9 (.tmp 1)⟩,
  ⟨none, some 5, .call (.func 13) [(.tmp 4)]⟩,
  ⟨none, some 6, .un .not (.tmp 5)⟩])
 (.cond (.tmp 6) (.seq (.region [⟨none, some 2, .mv (.const (.string ⟨#[]⟩))⟩,
  ⟨none, some 3, .mv (.const (.int .i64 1))⟩])
 .ret) .skip))
 (.seq (.region [⟨none, some 7, .loadN 9 (.tmp 1)⟩,
  ⟨none, some 8, .call (.func 14) [(.tmp 7)]⟩,
  ⟨none, some 2, .mv (.tmp 8)⟩,
  ⟨none, some 3, .mv (.const (.int .i64 0))⟩])
 .ret))),
 [.tmp 2, .tmp 3]⟩
theorem c_show_Text : compF P0 pf Go.Proofs.Tryz.f6 = some L_show_Text := by kernel_rfl
/-- undertow/undertowref07.Right -/
abbrev n_ref07_Right : Nat := 7
def L_ref07_Right : LFn := ⟨178, (.seq (.region [⟨none, some 1, .box (.tmp 0)⟩,
  ⟨none, some 2, .mv (.const (.bool false))⟩])
 (.seq (.region [⟨none, some 6, .fad 0 (.tmp 1)⟩,
  ⟨none, some 7, .load1 (.tmp 6)⟩,
  ⟨none, some 8, .call (.func 15) [(.tmp 7)]⟩,
  ⟨none, some 3, .mv (.tmp 8)⟩])
 (.seq (.seq (.region [⟨none, some 9, .mv (.tmp 3)⟩,
  ⟨none, some 10, .bin .eql (.tmp 9) (.const (.int .i64 0))⟩,
  ⟨none, some 11, .mv (.tmp 10)⟩,
  ⟨some (11, false), some 12, .fad 1 (.tmp 1)⟩,
  ⟨some (11, false), some 13, .load1 (.tmp 12)⟩,
  ⟨some (11, false), some 14, .bin .lss (.tmp 13) (.const (.int .i64 0))⟩,
  ⟨none, some 15, .pick (.tmp 11) (.const (.bool true)) (.tmp 14)⟩,
  ⟨none, some 16, .mv (.tmp 15)⟩,
  ⟨some (16, false), some 17, .fad 1 (.tmp 1)⟩,
  ⟨some (16, false), some 18, .load1 (.tmp 17)⟩,
  ⟨some (16, false), some 19, .bin .gtr (.tmp 18) (.const (.int .i64 31))⟩,
  ⟨none, some 20, .pick (.tmp 16) (.const (.bool true)) (.tmp 19)⟩,
  ⟨none, some 21, .mv (.tmp 20)⟩,
  ⟨some (21, false), some 22, .fad 2 (.tmp 1)⟩,
  ⟨some (21, false), some 23, .load1 (.tmp 22)⟩,
  ⟨some (21, false), some 24, .bin .lss (.tmp 23) (.const (.int .i64 0))⟩,
  ⟨none, some 25, .pick (.tmp 21) (.const (.bool true)) (.tmp 24)⟩,
  ⟨none, some 26, .mv (.tmp 25)⟩,
  ⟨some (26, false), some 27, .fad 2 (.tmp 1)⟩,
  ⟨some (26, false), some 28, .load1 (.tmp 27)⟩,
  ⟨some (26, false), some 29, .bin .gtr (.tmp 28) (.const (.int .i64 31))⟩,
  ⟨none, some 30, .pick (.tmp 26) (.const (.bool true)) (.tmp 29)⟩,
  ⟨none, some 31, .mv (.tmp 30)⟩,
  ⟨some (31, false), some 32, .fad 3 (.tmp 1)⟩,
  ⟨some (31, false), some 33, .load1 (.tmp 32)⟩,
  ⟨some (31, false), some 34, .bin .lss (.tmp 33) (.const (.int .i64 0))⟩,
  ⟨none, some 35, .pick (.tmp 31) (.const (.bool true)) (.tmp 34)⟩,
  ⟨none, some 36, .mv (.tmp 35)⟩,
  ⟨some (36, false), some 37, .fad 3 (.tmp 1)⟩,
  ⟨some (36, false), some 38, .load1 (.tmp 37)⟩,
  ⟨some (36, false), some 39, .bin .gtr (.tmp 38) (.const (.int .i64 31))⟩,
  ⟨none, some 40, .pick (.tmp 36) (.const (.bool true)) (.tmp 39)⟩])
 (.cond (.tmp 40) (.seq (.region [⟨none, some 2, .mv (.const (.bool false))⟩])
 .ret) .skip))
 (.seq (.seq (.region [⟨none, some 41, .fad 0 (.tmp 1)⟩,
  ⟨none, some 42, .load1 (.tmp 41)⟩,
  ⟨none, some 43, .call (.func 16) [(.tmp 42)]⟩,
  ⟨none, some 44, .un .not (.tmp 43)⟩,
  ⟨none, some 45, .mv (.tmp 44)⟩,
  ⟨some (45, true), some 46, .fad 1 (.tmp 1)⟩,
  ⟨some (45, true), some 47, .load1 (.tmp 46)⟩,
  ⟨some (45, true), some 48, .bin .neq (.tmp 47) (.const (.int .i64 0))⟩,
  ⟨none, some 49, .pick (.tmp 45) (.tmp 48) (.const (.bool false))⟩,
  ⟨none, some 50, .mv (.tmp 49)⟩,
  ⟨some (50, false), some 51, .fad 0 (.tmp 1)⟩,
  ⟨some (50, false), some 52, .load1 (.tmp 51)⟩,
  ⟨some (50, false), some 53, .call (.func 17) [(.tmp 52)]⟩,
  ⟨some (50, false), some 54, .un .not (.tmp 53)⟩,
  ⟨some (50, false), some 55, .mv (.tmp 54)⟩,
  ⟨some (55, true), some 56, .fad 2 (.tmp 1)⟩,
  ⟨some (55, true), some 57, .load1 (.tmp 56)⟩,
  ⟨some (55, true), some 58, .bin .neq (.tmp 57) (.const (.int .i64 0))⟩,
  ⟨some (50, false), some 59, .pick (.tmp 55) (.tmp 58) (.const (.bool false))⟩,
  ⟨none, some 60, .pick (.tmp 50) (.const (.bool true)) (.tmp 59)⟩,
  ⟨none, some 61, .mv (.tmp 60)⟩,
  ⟨some (61, false), some 62, .fad 0 (.tmp 1)⟩,
  ⟨some (61, false), some 63, .load1 (.tmp 62)⟩,
  ⟨some (61, false), some 64, .call (.func 18) [(.tmp 63)]⟩,
  ⟨some (61, false), some 65, .un .not (.tmp 64)⟩,
  ⟨some (61, false), some 66, .mv (.tmp 65)⟩,
  ⟨some (66, true), some 67, .fad 3 (.tmp 1)⟩,
  ⟨some (66, true), some 68, .load1 (.tmp 67)⟩,
  ⟨some (66, true), some 69, .bin .neq (.tmp 68) (.const (.int .i64 0))⟩,
  ⟨some (61, false), some 70, .pick (.tmp 66) (.tmp 69) (.const (.bool false))⟩,
  ⟨none, some 71, .pick (.tmp 61) (.const (.bool true)) (.tmp 70)⟩,
  ⟨none, some 72, .mv (.tmp 71)⟩,
  ⟨some (72, false), some 73, .mv (.tmp 3)⟩,
  ⟨some (72, false), some 74, .bin .lss (.tmp 73) (.const (.int .i64 10))⟩,
  ⟨some (72, false), some 75, .mv (.tmp 74)⟩,
  ⟨some (75, true), some 76, .fad 5 (.tmp 1)⟩,
  ⟨some (75, true), some 77, .load1 (.tmp 76)⟩,
  ⟨some (75, true), some 78, .mv (.tmp 77)⟩,
  ⟨some (78, false), some 79, .fad 6 (.tmp 1)⟩,
  ⟨some (78, false), some 80, .load1 (.tmp 79)⟩,
  ⟨some (75, true), some 81, .pick (.tmp 78) (.const (.bool true)) (.tmp 80)⟩,
  ⟨some (72, false), some 82, .pick (.tmp 75) (.tmp 81) (.const (.bool false))⟩,
  ⟨none, some 83, .pick (.tmp 72) (.const (.bool true)) (.tmp 82)⟩])
 (.cond (.tmp 83) (.seq (.region [⟨none, some 2, .mv (.const (.bool false))⟩])
 .ret) .skip))
 (.seq (.region [⟨none, some 84, .fad 0 (.tmp 1)⟩,
  ⟨none, some 85, .load1 (.tmp 84)⟩,
  ⟨none, some 86, .call (.func 19) [(.tmp 85)]⟩,
  ⟨none, some 87, .fad 0 (.tmp 1)⟩,
  ⟨none, some 88, .load1 (.tmp 87)⟩,
  ⟨none, some 89, .call (.func 20) [(.tmp 88)]⟩,
  ⟨none, some 4, .mv (.tmp 86)⟩,
  ⟨none, some 5, .mv (.tmp 89)⟩])
 (.seq (.block 0 (.seq (.region [⟨none, some 91, .mv (.tmp 4)⟩,
  ⟨none, some 92, .bin .eql (.tmp 91) (.const (.int .i64 6))⟩,
  ⟨none, some 93, .mv (.tmp 92)⟩,
  ⟨some (93, true), some 94, .fad 4 (.tmp 1)⟩,
  ⟨some (93, true), some 95, .load1 (.tmp 94)⟩,
  ⟨some (93, true), some 96, .bin .lss (.tmp 95) (.const (.int .i64 0))⟩,
  ⟨some (93, true), some 97, .mv (.tmp 96)⟩,
  ⟨some (97, false), some 98, .fad 4 (.tmp 1)⟩,
  ⟨some (97, false), some 99, .load1 (.tmp 98)⟩,
  ⟨some (97, false), some 100, .bin .gtr (.tmp 99) (.const (.int .i64 63))⟩,
  ⟨some (93, true), some 101, .pick (.tmp 97) (.const (.bool true)) (.tmp 100)⟩,
  ⟨none, some 102, .pick (.tmp 93) (.tmp 101) (.const (.bool false))⟩,
  ⟨none, some 90, .mv (.tmp 102)⟩])
 (.cond (.tmp 90) (.seq (.region [⟨none, some 2, .mv (.const (.bool false))⟩])
 .ret) (.seq (.region [⟨none, some 104, .mv (.tmp 4)⟩,
  ⟨none, some 105, .bin .eql (.tmp 104) (.const (.int .i64 5))⟩,
  ⟨none, some 106, .mv (.tmp 105)⟩,
  ⟨some (106, true), some 107, .fad 4 (.tmp 1)⟩,
  ⟨some (106, true), some 108, .load1 (.tmp 107)⟩,
  ⟨some (106, true), some 109, .bin .lss (.tmp 108) (.const (.int .i64 0))⟩,
  ⟨some (106, true), some 110, .mv (.tmp 109)⟩,
  ⟨some (110, false), some 111, .fad 4 (.tmp 1)⟩,
  ⟨some (110, false), some 112, .load1 (.tmp 111)⟩,
  ⟨some (110, false), some 113, .bin .gtr (.tmp 112) (.const (.int .i64 31))⟩,
  ⟨some (106, true), some 114, .pick (.tmp 110) (.const (.bool true)) (.tmp 113)⟩,
  ⟨none, some 115, .pick (.tmp 106) (.tmp 114) (.const (.bool false))⟩,
  ⟨none, some 103, .mv (.tmp 115)⟩])
 (.cond (.tmp 103) (.seq (.region [⟨none, some 2, .mv (.const (.bool false))⟩])
 .ret) (.seq (.region [⟨none, some 117, .mv (.tmp 4)⟩,
  ⟨none, some 118, .bin .eql (.tmp 117) (.const (.int .i64 0))⟩,
  ⟨none, some 119, .mv (.tmp 118)⟩,
  ⟨some (119, true), some 120, .mv (.tmp 5)⟩,
  ⟨some (119, true), some 121, .bin .eql (.tmp 120) (.const (.int .i64 0))⟩,
  ⟨none, some 122, .pick (.tmp 119) (.tmp 121) (.const (.bool false))⟩,
  ⟨none, some 123, .mv (.tmp 122)⟩,
  ⟨some (123, true), some 124, .fad 4 (.tmp 1)⟩,
  ⟨some (123, true), some 125, .load1 (.tmp 124)⟩,
  ⟨some (123, true), some 126, .bin .neq (.tmp 125) (.const (.int .i64 0))⟩,
  ⟨none, some 127, .pick (.tmp 123) (.tmp 126) (.const (.bool false))⟩,
  ⟨none, some 116, .mv (.tmp 127)⟩])
 (.cond (.tmp 116) (.seq (.region [⟨none, some 2, .mv (.const (.bool false))⟩])
 .ret) (.seq (.region [⟨none, some 129, .mv (.tmp 5)⟩,
  ⟨none, some 130, .bin .gtr (.tmp 129) (.const (.int .i64 0))⟩,
  ⟨none, some 131, .mv (.tmp 130)⟩,
  ⟨some (131, true), some 132, .mv (.tmp 5)⟩,
  ⟨some (131, true), some 133, .fad 4 (.tmp 1)⟩,
  ⟨some (131, true), some 134, .load1 (.tmp 133)⟩,
  ⟨some (131, true), some 135, .call (.func 21) [(.tmp 132), (.tmp 134)]⟩,
  ⟨some (131, true), some 136, .un .not (.tmp 135)⟩,
  ⟨none, some 137, .pick (.tmp 131) (.tmp 136) (.const (.bool false))⟩,
  ⟨none, some 128, .mv (.tmp 137)⟩])
 (.cond (.tmp 128) (.seq (.region [⟨none, some 2, .mv (.const (.bool false))⟩])
 .ret) .skip)))))))))
 (.seq (.seq (.region [⟨none, some 138, .fad 0 (.tmp 1)⟩,
  ⟨none, some 139, .load1 (.tmp 138)⟩])
 (.block 1 (.seq (.region [⟨none, some 141, .bin .eql (.tmp 139) (.const (.int .i64 50))⟩,
  ⟨none, some 140, .mv (.tmp 141)⟩])
 (.cond (.tmp 140) (.seq (.region [⟨none, some 142, .fad 7 (.tmp 1)⟩,
  ⟨none, some 143, .load1 (.tmp 142)⟩,
  ⟨none, some 144, .bin .geq (.tmp 143) (.const (.int .i64 0))⟩,
  ⟨none, some 145, .mv (.tmp 144)⟩,
  ⟨some (145, true), some 146, .fad 7 (.tmp 1)⟩,
  ⟨some (145, true), some 147, .load1 (.tmp 146)⟩,
  ⟨some (145, true), some 148, .bin .lss (.tmp 147) (.const (.int .i64 16))⟩,
  ⟨none, some 149, .pick (.tmp 145) (.tmp 148) (.const (.bool false))⟩,
  ⟨none, some 150, .mv (.tmp 149)⟩,
  ⟨some (150, true), some 151, .fad 8 (.tmp 1)⟩,
  ⟨some (150, true), some 152, .load1 (.tmp 151)⟩,
  ⟨some (150, true), some 153, .bin .geq (.tmp 152) (.const (.int .i64 0))⟩,
  ⟨none, some 154, .pick (.tmp 150) (.tmp 153) (.const (.bool false))⟩,
  ⟨none, some 155, .mv (.tmp 154)⟩,
  ⟨some (155, true), some 156, .fad 8 (.tmp 1)⟩,
  ⟨some (155, true), some 157, .load1 (.tmp 156)⟩,
  ⟨some (155, true), some 158, .bin .lss (.tmp 157) (.const (.int .i64 16))⟩,
  ⟨none, some 159, .pick (.tmp 155) (.tmp 158) (.const (.bool false))⟩,
  ⟨none, some 2, .mv (.tmp 159)⟩])
 .ret) (.seq (.region [⟨none, some 161, .bin .eql (.tmp 139) (.const (.int .i64 51))⟩,
  ⟨none, some 160, .mv (.tmp 161)⟩])
 (.cond (.tmp 160) (.seq (.region [⟨none, some 162, .fad 7 (.tmp 1)⟩,
  ⟨none, some 163, .load1 (.tmp 162)⟩,
  ⟨none, some 164, .bin .eql (.tmp 163) (.const (.int .i64 3))⟩,
  ⟨none, some 165, .mv (.tmp 164)⟩,
  ⟨some (165, true), some 166, .fad 8 (.tmp 1)⟩,
  ⟨some (165, true), some 167, .load1 (.tmp 166)⟩,
  ⟨some (165, true), some 168, .bin .eql (.tmp 167) (.const (.int .i64 3))⟩,
  ⟨none, some 169, .pick (.tmp 165) (.tmp 168) (.const (.bool false))⟩,
  ⟨none, some 2, .mv (.tmp 169)⟩])
 .ret) .skip))))))
 (.seq (.region [⟨none, some 170, .fad 7 (.tmp 1)⟩,
  ⟨none, some 171, .load1 (.tmp 170)⟩,
  ⟨none, some 172, .bin .eql (.tmp 171) (.const (.int .i64 0))⟩,
  ⟨none, some 173, .mv (.tmp 172)⟩,
  ⟨some (173, true), some 174, .fad 8 (.tmp 1)⟩,
  ⟨some (173, true), some 175, .load1 (.tmp 174)⟩,
  ⟨some (173, true), some 176, .bin .eql (.tmp 175) (.const (.int .i64 0))⟩,
  ⟨none, some 177, .pick (.tmp 173) (.tmp 176) (.const (.bool false))⟩,
  ⟨none, some 2, .mv (.tmp 177)⟩])
 .ret)))))))),
 [.tmp 2]⟩
theorem c_ref07_Right : compF P0 pf Go.Proofs.Tryz.f7 = some L_ref07_Right := by kernel_rfl
/-- undertow/undertowref09.Text -/
abbrev n_ref09_Text : Nat := 8
def L_ref09_Text : LFn := ⟨173, (.seq (.region [⟨none, some 1, .box (.tmp 0)⟩,
  ⟨none, some 2, .mv (.const (.string ⟨#[]⟩))⟩])
 (.seq (.region [⟨none, some 9, .fad 0 (.tmp 1)⟩,
  ⟨none, some 10, .load1 (.tmp 9)⟩,
  ⟨none, some 11, .call (.func 15) [(.tmp 10)]⟩,
  ⟨none, some 3, .mv (.tmp 11)⟩])
 (.seq (.region [⟨none, some 12, .fad 0 (.tmp 1)⟩,
  ⟨none, some 13, .load1 (.tmp 12)⟩,
  ⟨none, some 14, .call (.func 22) [(.tmp 13)]⟩,
  ⟨none, some 4, .mv (.tmp 14)⟩])
 (.seq (.seq (.region [⟨none, some 15, .fad 5 (.tmp 1)⟩,
  ⟨none, some 16, .load1 (.tmp 15)⟩,
  ⟨none, some 17, .mv (.tmp 16)⟩,
  ⟨some (17, false), some 18, .fad 6 (.tmp 1)⟩,
  ⟨some (17, false), some 19, .load1 (.tmp 18)⟩,
  ⟨none, some 20, .pick (.tmp 17) (.const (.bool true)) (.tmp 19)⟩])
 (.cond (.tmp 20) (.region [⟨none, some 21, .mv (.tmp 4)⟩,
  ⟨none, some 22, .bin .add (.tmp 21) (.const (.string ⟨#[46]⟩))⟩,
  ⟨none, some 4, .mv (.tmp 22)⟩]) .skip))
 (.seq (.seq (.region [⟨none, some 23, .fad 5 (.tmp 1)⟩,
  ⟨none, some 24, .load1 (.tmp 23)⟩])
 (.cond (.tmp 24) (.region [⟨none, some 25, .mv (.tmp 4)⟩,
  ⟨none, some 26, .bin .add (.tmp 25) (.const (.string ⟨#[97, 113]⟩))⟩,
  ⟨none, some 4, .mv (.tmp 26)⟩]) .skip))
 (.seq (.seq (.region [⟨none, some 27, .fad 6 (.tmp 1)⟩,
  ⟨none, some 28, .load1 (.tmp 27)⟩])
 (.cond (.tmp 28) (.region [⟨none, some 29, .mv (.tmp 4)⟩,
  ⟨none, some 30, .bin .add (.tmp 29) (.const (.string ⟨#[114, 108]⟩))⟩,
  ⟨none, some 4, .mv (.tmp 30)⟩]) .skip))
 (.seq (.region [⟨none, some 31, .fad 1 (.tmp 1)⟩,
  ⟨none, some 32, .load1 (.tmp 31)⟩,
  ⟨none, some 33, .call (.func 23) [(.tmp 32)]⟩,
  ⟨none, some 34, .bin .add (.const (.string ⟨#[120]⟩)) (.tmp 33)⟩,
  ⟨none, some 35, .fad 2 (.tmp 1)⟩,
  ⟨none, some 36, .load1 (.tmp 35)⟩,
  ⟨none, some 37, .call (.func 23) [(.tmp 36)]⟩,
  ⟨none, some 38, .bin .add (.const (.string ⟨#[120]⟩)) (.tmp 37)⟩,
  ⟨none, some 39, .fad 3 (.tmp 1)⟩,
  ⟨none, some 40, .load1 (.tmp 39)⟩,
  ⟨none, some 41, .call (.func 23) [(.tmp 40)]⟩,
  ⟨none, some 42, .bin .add (.const (.string ⟨#[120]⟩)) (.tmp 41)⟩,
  ⟨none, some 43, .fad 4 (.tmp 1)⟩,
  ⟨none, some 44, .load1 (.tmp 43)⟩,
  ⟨none, some 45, .call (.func 23) [(.tmp 44)]⟩,
  ⟨none, some 5, .mv (.tmp 34)⟩,
  ⟨none, some 6, .mv (.tmp 38)⟩,
  ⟨none, some 7, .mv (.tmp 42)⟩,
  ⟨none, some 8, .mv (.tmp 45)⟩])
 (.seq (.block 0 (.seq (.region [⟨none, some 47, .mv (.tmp 3)⟩,
  ⟨none, some 48, .bin .eql (.tmp 47) (.const (.int .i64 1))⟩,
  ⟨none, some 49, .mv (.tmp 48)⟩,
  ⟨some (49, false), some 50, .fad 0 (.tmp 1)⟩,
  ⟨some (49, false), some 51, .load1 (.tmp 50)⟩,
  ⟨some (49, false), some 52, .bin .eql (.tmp 51) (.const (.int .i64 3))⟩,
  ⟨none, some 53, .pick (.tmp 49) (.const (.bool true)) (.tmp 52)⟩,
  ⟨none, some 46, .mv (.tmp 53)⟩])
 (.cond (.tmp 46) (.seq (.region [⟨none, some 54, .mv (.tmp 4)⟩,
  ⟨none, some 55, .bin .add (.tmp 54) (.const (.string ⟨#[32]⟩))⟩,
  ⟨none, some 56, .mv (.tmp 5)⟩,
  ⟨none, some 57, .bin .add (.tmp 55) (.tmp 56)⟩,
  ⟨none, some 58, .bin .add (.tmp 57) (.const (.string ⟨#[44, 32]⟩))⟩,
  ⟨none, some 59, .mv (.tmp 8)⟩,
  ⟨none, some 60, .bin .add (.tmp 58) (.tmp 59)⟩,
  ⟨none, some 2, .mv (.tmp 60)⟩])
 .ret) (.seq (.region [⟨none, some 62, .mv (.tmp 3)⟩,
  ⟨none, some 63, .bin .eql (.tmp 62) (.const (.int .i64 2))⟩,
  ⟨none, some 64, .mv (.tmp 63)⟩,
  ⟨some (64, false), some 65, .mv (.tmp 3)⟩,
  ⟨some (64, false), some 66, .bin .eql (.tmp 65) (.const (.int .i64 6))⟩,
  ⟨none, some 67, .pick (.tmp 64) (.const (.bool true)) (.tmp 66)⟩,
  ⟨none, some 61, .mv (.tmp 67)⟩])
 (.cond (.tmp 61) (.seq (.region [⟨none, some 68, .mv (.tmp 4)⟩,
  ⟨none, some 69, .bin .add (.tmp 68) (.const (.string ⟨#[32]⟩))⟩,
  ⟨none, some 70, .mv (.tmp 5)⟩,
  ⟨none, some 71, .bin .add (.tmp 69) (.tmp 70)⟩,
  ⟨none, some 72, .bin .add (.tmp 71) (.const (.string ⟨#[44, 32]⟩))⟩,
  ⟨none, some 73, .mv (.tmp 6)⟩,
  ⟨none, some 74, .bin .add (.tmp 72) (.tmp 73)⟩,
  ⟨none, some 75, .bin .add (.tmp 74) (.const (.string ⟨#[44, 32]⟩))⟩,
  ⟨none, some 76, .mv (.tmp 8)⟩,
  ⟨none, some 77, .bin .add (.tmp 75) (.tmp 76)⟩,
  ⟨none, some 2, .mv (.tmp 77)⟩])
 .ret) (.seq (.region [⟨none, some 79, .mv (.tmp 3)⟩,
  ⟨none, some 80, .bin .eql (.tmp 79) (.const (.int .i64 3))⟩,
  ⟨none, some 78, .mv (.tmp 80)⟩])
 (.cond (.tmp 78) (.seq (.region [⟨none, some 81, .mv (.tmp 4)⟩,
  ⟨none, some 82, .bin .add (.tmp 81) (.const (.string ⟨#[32]⟩))⟩,
  ⟨none, some 83, .mv (.tmp 6)⟩,
  ⟨none, some 84, .bin .add (.tmp 82) (.tmp 83)⟩,
  ⟨none, some 85, .bin .add (.tmp 84) (.const (.string ⟨#[44, 32]⟩))⟩,
  ⟨none, some 86, .mv (.tmp 7)⟩,
  ⟨none, some 87, .bin .add (.tmp 85) (.tmp 86)⟩,
  ⟨none, some 88, .bin .add (.tmp 87) (.const (.string ⟨#[44, 32]⟩))⟩,
  ⟨none, some 89, .mv (.tmp 8)⟩,
  ⟨none, some 90, .bin .add (.tmp 88) (.tmp 89)⟩,
  ⟨none, some 2, .mv (.tmp 90)⟩])
 .ret) (.seq (.region [⟨none, some 92, .mv (.tmp 3)⟩,
  ⟨none, some 93, .bin .eql (.tmp 92) (.const (.int .i64 4))⟩,
  ⟨none, some 91, .mv (.tmp 93)⟩])
 (.cond (.tmp 91) (.seq (.region [⟨none, some 94, .mv (.tmp 4)⟩,
  ⟨none, some 95, .bin .add (.tmp 94) (.const (.string ⟨#[32]⟩))⟩,
  ⟨none, some 96, .mv (.tmp 5)⟩,
  ⟨none, some 97, .bin .add (.tmp 95) (.tmp 96)⟩,
  ⟨none, some 98, .bin .add (.tmp 97) (.const (.string ⟨#[44, 32]⟩))⟩,
  ⟨none, some 99, .mv (.tmp 8)⟩,
  ⟨none, some 100, .bin .add (.tmp 98) (.tmp 99)⟩,
  ⟨none, some 101, .bin .add (.tmp 100) (.const (.string ⟨#[40]⟩))⟩,
  ⟨none, some 102, .mv (.tmp 6)⟩,
  ⟨none, some 103, .bin .add (.tmp 101) (.tmp 102)⟩,
  ⟨none, some 104, .bin .add (.tmp 103) (.const (.string ⟨#[41]⟩))⟩,
  ⟨none, some 2, .mv (.tmp 104)⟩])
 .ret) (.seq (.region [⟨none, some 106, .mv (.tmp 3)⟩,
  ⟨none, some 107, .bin .eql (.tmp 106) (.const (.int .i64 5))⟩,
  ⟨none, some 105, .mv (.tmp 107)⟩])
 (.cond (.tmp 105) (.seq (.region [⟨none, some 108, .mv (.tmp 4)⟩,
  ⟨none, some 109, .bin .add (.tmp 108) (.const (.string ⟨#[32]⟩))⟩,
  ⟨none, some 110, .mv (.tmp 7)⟩,
  ⟨none, some 111, .bin .add (.tmp 109) (.tmp 110)⟩,
  ⟨none, some 112, .bin .add (.tmp 111) (.const (.string ⟨#[44, 32]⟩))⟩,
  ⟨none, some 113, .mv (.tmp 8)⟩,
  ⟨none, some 114, .bin .add (.tmp 112) (.tmp 113)⟩,
  ⟨none, some 115, .bin .add (.tmp 114) (.const (.string ⟨#[40]⟩))⟩,
  ⟨none, some 116, .mv (.tmp 6)⟩,
  ⟨none, some 117, .bin .add (.tmp 115) (.tmp 116)⟩,
  ⟨none, some 118, .bin .add (.tmp 117) (.const (.string ⟨#[41]⟩))⟩,
  ⟨none, some 2, .mv (.tmp 118)⟩])
 .ret) (.seq (.region [⟨none, some 120, .mv (.tmp 3)⟩,
  ⟨none, some 121, .bin .eql (.tmp 120) (.const (.int .i64 7))⟩,
  ⟨none, some 119, .mv (.tmp 121)⟩])
 (.cond (.tmp 119) (.seq (.region [⟨none, some 122, .mv (.tmp 4)⟩,
  ⟨none, some 123, .bin .add (.tmp 122) (.const (.string ⟨#[32]⟩))⟩,
  ⟨none, some 124, .mv (.tmp 5)⟩,
  ⟨none, some 125, .bin .add (.tmp 123) (.tmp 124)⟩,
  ⟨none, some 126, .bin .add (.tmp 125) (.const (.string ⟨#[44, 32]⟩))⟩,
  ⟨none, some 127, .mv (.tmp 6)⟩,
  ⟨none, some 128, .bin .add (.tmp 126) (.tmp 127)⟩,
  ⟨none, some 129, .bin .add (.tmp 128) (.const (.string ⟨#[44, 32]⟩))⟩,
  ⟨none, some 130, .mv (.tmp 7)⟩,
  ⟨none, some 131, .bin .add (.tmp 129) (.tmp 130)⟩,
  ⟨none, some 2, .mv (.tmp 131)⟩])
 .ret) (.seq (.region [⟨none, some 133, .fad 0 (.tmp 1)⟩,
  ⟨none, some 134, .load1 (.tmp 133)⟩,
  ⟨none, some 135, .bin .eql (.tmp 134) (.const (.int .i64 50))⟩,
  ⟨none, some 132, .mv (.tmp 135)⟩])
 (.cond (.tmp 132) (.seq (.region [⟨none, some 136, .mv (.tmp 4)⟩,
  ⟨none, some 137, .bin .add (.tmp 136) (.const (.string ⟨#[32]⟩))⟩,
  ⟨none, some 138, .fad 7 (.tmp 1)⟩,
  ⟨none, some 139, .load1 (.tmp 138)⟩,
  ⟨none, some 140, .call (.func 24) [(.tmp 139)]⟩,
  ⟨none, some 141, .bin .add (.tmp 137) (.tmp 140)⟩,
  ⟨none, some 142, .bin .add (.tmp 141) (.const (.string ⟨#[44, 32]⟩))⟩,
  ⟨none, some 143, .fad 8 (.tmp 1)⟩,
  ⟨none, some 144, .load1 (.tmp 143)⟩,
  ⟨none, some 145, .call (.func 24) [(.tmp 144)]⟩,
  ⟨none, some 146, .bin .add (.tmp 142) (.tmp 145)⟩,
  ⟨none, some 2, .mv (.tmp 146)⟩])
 .ret) (.seq (.region [⟨none, some 148, .mv (.tmp 3)⟩,
  ⟨none, some 149, .bin .eql (.tmp 148) (.const (.int .i64 10))⟩,
  ⟨none, some 147, .mv (.tmp 149)⟩])
 (.cond (.tmp 147) (.seq (.region [⟨none, some 150, .mv (.tmp 4)⟩,
  ⟨none, some 151, .bin .add (.tmp 150) (.const (.string ⟨#[32]⟩))⟩,
  ⟨none, some 152, .mv (.tmp 5)⟩,
  ⟨none, some 153, .bin .add (.tmp 151) (.tmp 152)⟩,
  ⟨none, some 154, .bin .add (.tmp 153) (.const (.string ⟨#[44, 32, 40]⟩))⟩,
  ⟨none, some 155, .mv (.tmp 6)⟩,
  ⟨none, some 156, .bin .add (.tmp 154) (.tmp 155)⟩,
  ⟨none, some 157, .bin .add (.tmp 156) (.const (.string ⟨#[41]⟩))⟩,
  ⟨none, some 2, .mv (.tmp 157)⟩])
 .ret) (.seq (.region [⟨none, some 159, .mv (.tmp 3)⟩,
  ⟨none, some 160, .bin .gtr (.tmp 159) (.const (.int .i64 10))⟩,
  ⟨none, some 158, .mv (.tmp 160)⟩])
 (.cond (.tmp 158) (.seq (.region [⟨none, some 161, .mv (.tmp 4)⟩,
  ⟨none, some 162, .bin .add (.tmp 161) (.const (.string ⟨#[32]⟩))⟩,
  ⟨none, some 163, .mv (.tmp 5)⟩,
  ⟨none, some 164, .bin .add (.tmp 162) (.tmp 163)⟩,
  ⟨none, some 165, .bin .add (.tmp 164) (.const (.string ⟨#[44, 32]⟩))⟩,
  ⟨none, some 166, .mv (.tmp 7)⟩,
  ⟨none, some 167, .bin .add (.tmp 165) (.tmp 166)⟩,
  ⟨none, some 168, .bin .add (.tmp 167) (.const (.string ⟨#[44, 32, 40]⟩))⟩,
  ⟨none, some 169, .mv (.tmp 6)⟩,
  ⟨none, some 170, .bin .add (.tmp 168) (.tmp 169)⟩,
  ⟨none, some 171, .bin .add (.tmp 170) (.const (.string ⟨#[41]⟩))⟩,
  ⟨none, some 2, .mv (.tmp 171)⟩])
 .ret) .skip)))))))))))))))))))
 (.seq (.region [⟨none, some 172, .mv (.tmp 4)⟩,
  ⟨none, some 2, .mv (.tmp 172)⟩])
 .ret))))))))),
 [.tmp 2]⟩
theorem c_ref09_Text : compF P0 pf Go.Proofs.Tryz.f8 = some L_ref09_Text := by kernel_rfl
/-- undertow/show.Read -/
abbrev n_show_Read : Nat := 9
def L_show_Read : LFn := ⟨18, (.seq (.region [⟨none, some 2, .alloc [.int .i64 0, .int .i64 0, .int .i64 0, .int .i64 0, .int .i64 0, .bool false, .bool false, .int .i64 0, .int .i64 0]⟩,
  ⟨none, some 3, .mv (.const (.int .i64 0))⟩])
 (.seq (.region [⟨none, some 5, .mv (.tmp 0)⟩,
  ⟨none, some 6, .call (.func 25) [(.tmp 5)]⟩,
  ⟨none, some 4, .alloc [.int .i64 0, .int .i64 0, .int .i64 0, .int .i64 0, .int .i64 0, .bool false, .bool false, .int .i64 0, .int .i64 0]⟩,
  ⟨none, none, .store 9 (.tmp 4) (.tmp 6)⟩])
 (.seq (.seq (.region [⟨none, some 7, .loadN 9 (.tmp 4)⟩,
  ⟨none, some 8, .call (.func 13) [(.tmp 7)]⟩,
  ⟨none, some 9, .un .not (.tmp 8)⟩,
  ⟨none, some 10, .mv (.tmp 9)⟩,
  ⟨some (10, false), some 11, .loadN 9 (.tmp 4)⟩,
  ⟨some (10, false), some 12, .call (.func 14) [(.tmp 11)]⟩,
  ⟨some (10, false), some 13, .mv (.tmp 0)⟩,
  ⟨some (10, false), some 14, .bin .neq (.tmp 12) (.tmp 13)⟩,
  ⟨none, some 15, .pick (.tmp 10) (.const (.bool true)) (.tmp 14)⟩])
 (.cond (.tmp 15) (.seq (.region [⟨none, some 16, .build [.int .i64 0, .int .i64 0, .int .i64 0, .int .i64 0, .int .i64 0, .bool false, .bool false, .int .i64 0, .int .i64 0] []⟩,
  ⟨none, none, .store 9 (.tmp 2) (.tmp 16)⟩,
  ⟨none, some 3, .mv (.const (.int .i64 5))⟩])
 .ret) .skip))
 (.seq (.region [⟨none, some 17, .loadN 9 (.tmp 4)⟩,
  ⟨none, none, .store 9 (.tmp 2) (.tmp 17)⟩,
  ⟨none, some 3, .mv (.const (.int .i64 0))⟩])
 .ret)))),
 [.cellN 2 9, .tmp 3]⟩
theorem c_show_Read : compF P0 pf Go.Proofs.Tryz.f9 = some L_show_Read := by kernel_rfl
/-- undertow/undertowref09.Read -/
abbrev n_ref09_Read : Nat := 10
def L_ref09_Read : LFn := ⟨180, (.seq (.region [⟨none, some 2, .alloc [.int .i64 0, .int .i64 0, .int .i64 0, .int .i64 0, .int .i64 0, .bool false, .bool false, .int .i64 0, .int .i64 0]⟩,
  ⟨none, some 3, .mv (.const (.bool false))⟩])
 (.seq (.region [⟨none, some 16, .mv (.tmp 0)⟩,
  ⟨none, some 17, .call (.func 26) [(.tmp 16)]⟩,
  ⟨none, some 4, .mv (.tmp 17)⟩])
 (.seq (.seq (.region [⟨none, some 5, .mv (.const (.int .i64 1))⟩])
 (.block 0 (.loop (.seq (.seq (.region [⟨none, some 18, .mv (.tmp 5)⟩,
  ⟨none, some 19, .bin .leq (.tmp 18) (.const (.int .i64 75))⟩])
 (.cond (.tmp 19) .skip (.exit 0)))
 (.seq (.block 1 (.seq (.region [⟨none, some 22, .mv (.tmp 5)⟩,
  ⟨none, some 23, .call (.func 15) [(.tmp 22)]⟩,
  ⟨none, some 6, .mv (.tmp 23)⟩])
 (.seq (.region [⟨none, some 7, .mv (.const (.int .i64 0))⟩])
 (.block 2 (.loop (.seq (.seq (.region [⟨none, some 24, .mv (.tmp 7)⟩,
  ⟨none, some 25, .bin .lss (.tmp 24) (.const (.int .i64 4))⟩])
 (.cond (.tmp 25) .skip (.exit 2)))
 (.seq (.block 3 (.seq (.region [⟨none, some 28, .mv (.tmp 5)⟩,
  ⟨none, some 29, .mv (.tmp 7)⟩,
  ⟨none, some 30, .bin .rem (.tmp 29) (.const (.int .i64 2))⟩,
  ⟨none, some 31, .bin .eql (.tmp 30) (.const (.int .i64 1))⟩,
  ⟨none, some 32, .mv (.tmp 7)⟩,
  ⟨none, some 33, .bin .gtr (.tmp 32) (.const (.int .i64 1))⟩,
  ⟨none, some 34, .build [.int .i64 0, .int .i64 0, .int .i64 0, .int .i64 0, .int .i64 0, .bool false, .bool false, .int .i64 0, .int .i64 0] [(0, 1, (.tmp 28)), (5, 1, (.tmp 31)), (6, 1, (.tmp 33))]⟩,
  ⟨none, some 8, .alloc [.int .i64 0, .int .i64 0, .int .i64 0, .int .i64 0, .int .i64 0, .bool false, .bool false, .int .i64 0, .int .i64 0]⟩,
  ⟨none, none, .store 9 (.tmp 8) (.tmp 34)⟩])
 (.seq (.seq (.region [⟨none, some 35, .mv (.tmp 5)⟩,
  ⟨none, some 36, .bin .eql (.tmp 35) (.const (.int .i64 51))⟩])
 (.cond (.tmp 36) (.seq (.region [⟨none, some 37, .fad 7 (.tmp 8)⟩,
  ⟨none, none, .store 1 (.tmp 37) (.const (.int .i64 3))⟩])
 (.region [⟨none, some 38, .fad 8 (.tmp 8)⟩,
  ⟨none, none, .store 1 (.tmp 38) (.const (.int .i64 3))⟩])) .skip))
 (.seq (.region [⟨none, some 9, .mv (.const (.int .i64 0))⟩,
  ⟨none, some 10, .mv (.const (.int .i64 0))⟩])
 (.seq (.seq (.region [⟨none, some 11, .mv (.const (.int .i64 1))⟩])
 (.block 4 (.loop (.seq (.seq (.region [⟨none, some 39, .mv (.tmp 11)⟩,
  ⟨none, some 40, .mv (.tmp 4)⟩,
  ⟨none, some 41, .lenS (.tmp 40)⟩,
  ⟨none, some 42, .bin .lss (.tmp 39) (.tmp 41)⟩])
 (.cond (.tmp 42) .skip (.exit 4)))
 (.seq (.block 5 (.seq (.region [⟨none, some 46, .mv (.tmp 4)⟩,
  ⟨none, some 47, .mv (.tmp 11)⟩,
  ⟨none, some 48, .iadS 1 (.tmp 46) (.tmp 47)⟩,
  ⟨none, some 49, .load1 (.tmp 48)⟩,
  ⟨none, some 50, .call (.func 27) [(.tmp 49)]⟩,
  ⟨none, some 45, .mv (.tmp 50)⟩,
  ⟨none, some 51, .ext (.tmp 45) 0⟩,
  ⟨none, some 52, .ext (.tmp 45) 1⟩,
  ⟨none, some 12, .mv (.tmp 51)⟩,
  ⟨none, some 13, .mv (.tmp 52)⟩])
 (.seq (.region [⟨none, some 54, .mv (.tmp 4)⟩,
  ⟨none, some 55, .mv (.tmp 11)⟩,
  ⟨none, some 56, .iadS 1 (.tmp 54) (.tmp 55)⟩,
  ⟨none, some 57, .load1 (.tmp 56)⟩,
  ⟨none, some 58, .call (.func 28) [(.tmp 57)]⟩,
  ⟨none, some 53, .mv (.tmp 58)⟩,
  ⟨none, some 59, .ext (.tmp 53) 0⟩,
  ⟨none, some 60, .ext (.tmp 53) 1⟩,
  ⟨none, some 14, .mv (.tmp 59)⟩,
  ⟨none, some 15, .mv (.tmp 60)⟩])
 (.seq (.seq (.region [⟨none, some 61, .mv (.tmp 5)⟩,
  ⟨none, some 62, .bin .eql (.tmp 61) (.const (.int .i64 50))⟩,
  ⟨none, some 63, .mv (.tmp 62)⟩,
  ⟨some (63, true), some 64, .mv (.tmp 11)⟩,
  ⟨some (63, true), some 65, .bin .eql (.tmp 64) (.const (.int .i64 1))⟩,
  ⟨none, some 66, .pick (.tmp 63) (.tmp 65) (.const (.bool false))⟩])
 (.cond (.tmp 66) (.region [⟨none, some 67, .mv (.tmp 4)⟩,
  ⟨none, some 68, .mv (.tmp 11)⟩,
  ⟨none, some 69, .iadS 1 (.tmp 67) (.tmp 68)⟩,
  ⟨none, some 70, .load1 (.tmp 69)⟩,
  ⟨none, some 71, .call (.func 29) [(.tmp 70)]⟩,
  ⟨none, some 72, .fad 7 (.tmp 8)⟩,
  ⟨none, none, .store 1 (.tmp 72) (.tmp 71)⟩]) .skip))
 (.seq (.seq (.region [⟨none, some 73, .mv (.tmp 5)⟩,
  ⟨none, some 74, .bin .eql (.tmp 73) (.const (.int .i64 50))⟩,
  ⟨none, some 75, .mv (.tmp 74)⟩,
  ⟨some (75, true), some 76, .mv (.tmp 11)⟩,
  ⟨some (75, true), some 77, .bin .eql (.tmp 76) (.const (.int .i64 2))⟩,
  ⟨none, some 78, .pick (.tmp 75) (.tmp 77) (.const (.bool false))⟩])
 (.cond (.tmp 78) (.region [⟨none, some 79, .mv (.tmp 4)⟩,
  ⟨none, some 80, .mv (.tmp 11)⟩,
  ⟨none, some 81, .iadS 1 (.tmp 79) (.tmp 80)⟩,
  ⟨none, some 82, .load1 (.tmp 81)⟩,
  ⟨none, some 83, .call (.func 29) [(.tmp 82)]⟩,
  ⟨none, some 84, .fad 8 (.tmp 8)⟩,
  ⟨none, none, .store 1 (.tmp 84) (.tmp 83)⟩]) .skip))
 (.seq (.seq (.region [⟨none, some 85, .mv (.tmp 13)⟩])
 (.cond (.tmp 85) (.seq (.region [⟨none, some 86, .mv (.tmp 9)⟩,
  ⟨none, some 87, .bin .add (.tmp 86) (.const (.int .i64 1))⟩,
  ⟨none, some 9, .mv (.tmp 87)⟩])
 (.block 6 (.seq (.seq (.region [⟨none, some 89, .mv (.tmp 9)⟩,
  ⟨none, some 90, .bin .eql (.tmp 89) (.const (.int .i64 1))⟩,
  ⟨none, some 91, .mv (.tmp 90)⟩,
  ⟨some (91, true), some 92, .mv (.tmp 6)⟩,
  ⟨some (91, true), some 93, .bin .eql (.tmp 92) (.const (.int .i64 3))⟩,
  ⟨none, some 94, .pick (.tmp 91) (.tmp 93) (.const (.bool false))⟩,
  ⟨none, some 88, .mv (.tmp 94)⟩])
 (.cond (.tmp 88) .skip (.seq (.region [⟨none, some 95, .mv (.tmp 9)⟩,
  ⟨none, some 96, .bin .eql (.tmp 95) (.const (.int .i64 2))⟩,
  ⟨none, some 97, .mv (.tmp 96)⟩,
  ⟨some (97, true), some 98, .mv (.tmp 5)⟩,
  ⟨some (97, true), some 99, .bin .eql (.tmp 98) (.const (.int .i64 4))⟩,
  ⟨some (97, true), some 100, .mv (.tmp 99)⟩,
  ⟨some (100, false), some 101, .mv (.tmp 6)⟩,
  ⟨some (100, false), some 102, .bin .eql (.tmp 101) (.const (.int .i64 4))⟩,
  ⟨some (97, true), some 103, .pick (.tmp 100) (.const (.bool true)) (.tmp 102)⟩,
  ⟨some (97, true), some 104, .mv (.tmp 103)⟩,
  ⟨some (104, false), some 105, .mv (.tmp 6)⟩,
  ⟨some (104, false), some 106, .bin .eql (.tmp 105) (.const (.int .i64 5))⟩,
  ⟨some (97, true), some 107, .pick (.tmp 104) (.const (.bool true)) (.tmp 106)⟩,
  ⟨some (97, true), some 108, .mv (.tmp 107)⟩,
  ⟨some (108, false), some 109, .mv (.tmp 6)⟩,
  ⟨some (108, false), some 110, .bin .eql (.tmp 109) (.const (.int .i64 6))⟩,
  ⟨some (97, true), some 111, .pick (.tmp 108) (.const (.bool true)) (.tmp 110)⟩,
  ⟨some (97, true), some 112, .mv (.tmp 111)⟩,
  ⟨some (112, false), some 113, .mv (.tmp 6)⟩,
  ⟨some (112, false), some 114, .bin .eql (.tmp 113) (.const (.int .i64 7))⟩,
  ⟨some (97, true), some 115, .pick (.tmp 112) (.const (.bool true)) (.tmp 114)⟩,
  ⟨some (97, true), some 116, .mv (.tmp 115)⟩,
  ⟨some (116, false), some 117, .mv (.tmp 6)⟩,
  ⟨some (116, false), some 118, .bin .eql (.tmp 117) (.const (.int .i64 10))⟩,
  ⟨some (97, true), some 119, .pick (.tmp 116) (.const (.bool true)) (.tmp 118)⟩,
  ⟨none, some 120, .pick (.tmp 97) (.tmp 119) (.const (.bool false))⟩,
  ⟨none, some 88, .mv (.tmp 120)⟩])
 (.cond (.tmp 88) .skip (.region [⟨none, some 121, .mv (.tmp 9)⟩,
  ⟨none, some 122, .bin .eql (.tmp 121) (.const (.int .i64 3))⟩,
  ⟨none, some 123, .mv (.tmp 122)⟩,
  ⟨some (123, true), some 124, .mv (.tmp 6)⟩,
  ⟨some (123, true), some 125, .bin .gtr (.tmp 124) (.const (.int .i64 10))⟩,
  ⟨none, some 126, .pick (.tmp 123) (.tmp 125) (.const (.bool false))⟩,
  ⟨none, some 88, .mv (.tmp 126)⟩])))))
 (.cond (.tmp 88) (.region [⟨none, some 127, .mv (.tmp 12)⟩,
  ⟨none, some 128, .fad 2 (.tmp 8)⟩,
  ⟨none, none, .store 1 (.tmp 128) (.tmp 127)⟩]) (.seq (.seq (.region [⟨none, some 130, .mv (.tmp 9)⟩,
  ⟨none, some 131, .bin .eql (.tmp 130) (.const (.int .i64 1))⟩,
  ⟨none, some 132, .mv (.tmp 131)⟩,
  ⟨some (132, true), some 133, .mv (.tmp 6)⟩,
  ⟨some (132, true), some 134, .bin .eql (.tmp 133) (.const (.int .i64 5))⟩,
  ⟨none, some 135, .pick (.tmp 132) (.tmp 134) (.const (.bool false))⟩,
  ⟨none, some 129, .mv (.tmp 135)⟩])
 (.cond (.tmp 129) .skip (.seq (.region [⟨none, some 136, .mv (.tmp 9)⟩,
  ⟨none, some 137, .bin .eql (.tmp 136) (.const (.int .i64 2))⟩,
  ⟨none, some 138, .mv (.tmp 137)⟩,
  ⟨some (138, true), some 139, .mv (.tmp 6)⟩,
  ⟨some (138, true), some 140, .bin .eql (.tmp 139) (.const (.int .i64 3))⟩,
  ⟨some (138, true), some 141, .mv (.tmp 140)⟩,
  ⟨some (141, false), some 142, .mv (.tmp 6)⟩,
  ⟨some (141, false), some 143, .bin .gtr (.tmp 142) (.const (.int .i64 10))⟩,
  ⟨some (138, true), some 144, .pick (.tmp 141) (.const (.bool true)) (.tmp 143)⟩,
  ⟨none, some 145, .pick (.tmp 138) (.tmp 144) (.const (.bool false))⟩,
  ⟨none, some 129, .mv (.tmp 145)⟩])
 (.cond (.tmp 129) .skip (.region [⟨none, some 146, .mv (.tmp 9)⟩,
  ⟨none, some 147, .bin .eql (.tmp 146) (.const (.int .i64 3))⟩,
  ⟨none, some 148, .mv (.tmp 147)⟩,
  ⟨some (148, true), some 149, .mv (.tmp 6)⟩,
  ⟨some (148, true), some 150, .bin .eql (.tmp 149) (.const (.int .i64 7))⟩,
  ⟨none, some 151, .pick (.tmp 148) (.tmp 150) (.const (.bool false))⟩,
  ⟨none, some 129, .mv (.tmp 151)⟩])))))
 (.cond (.tmp 129) (.region [⟨none, some 152, .mv (.tmp 12)⟩,
  ⟨none, some 153, .fad 3 (.tmp 8)⟩,
  ⟨none, none, .store 1 (.tmp 153) (.tmp 152)⟩]) (.seq (.region [⟨none, some 155, .mv (.tmp 9)⟩,
  ⟨none, some 156, .bin .eql (.tmp 155) (.const (.int .i64 1))⟩,
  ⟨none, some 154, .mv (.tmp 156)⟩])
 (.cond (.tmp 154) (.region [⟨none, some 157, .mv (.tmp 12)⟩,
  ⟨none, some 158, .fad 1 (.tmp 8)⟩,
  ⟨none, none, .store 1 (.tmp 158) (.tmp 157)⟩]) .skip)))))))) .skip))
 (.seq (.region [⟨none, some 159, .mv (.tmp 15)⟩,
  ⟨none, some 160, .mv (.tmp 159)⟩,
  ⟨some (160, true), some 161, .mv (.tmp 5)⟩,
  ⟨some (160, true), some 162, .bin .neq (.tmp 161) (.const (.int .i64 50))⟩,
  ⟨none, some 163, .pick (.tmp 160) (.tmp 162) (.const (.bool false))⟩])
 (.cond (.tmp 163) (.seq (.region [⟨none, some 164, .mv (.tmp 10)⟩,
  ⟨none, some 165, .bin .add (.tmp 164) (.const (.int .i64 1))⟩,
  ⟨none, some 10, .mv (.tmp 165)⟩])
 (.seq (.region [⟨none, some 166, .mv (.tmp 10)⟩,
  ⟨none, some 167, .bin .eql (.tmp 166) (.const (.int .i64 1))⟩])
 (.cond (.tmp 167) (.region [⟨none, some 168, .mv (.tmp 14)⟩,
  ⟨none, some 169, .fad 4 (.tmp 8)⟩,
  ⟨none, none, .store 1 (.tmp 169) (.tmp 168)⟩]) .skip))) .skip))))))))
 (.region [⟨none, some 43, .mv (.tmp 11)⟩,
  ⟨none, some 44, .bin .add (.tmp 43) (.const (.int .i64 1))⟩,
  ⟨none, some 11, .mv (.tmp 44)⟩]))))))
 (.seq (.region [⟨none, some 170, .loadN 9 (.tmp 8)⟩,
  ⟨none, some 171, .call (.func 7) [(.tmp 170)]⟩,
  ⟨none, some 172, .mv (.tmp 171)⟩,
  ⟨some (172, true), some 173, .loadN 9 (.tmp 8)⟩,
  ⟨some (172, true), some 174, .call (.func 8) [(.tmp 173)]⟩,
  ⟨some (172, true), some 175, .mv (.tmp 0)⟩,
  ⟨some (172, true), some 176, .bin .eql (.tmp 174) (.tmp 175)⟩,
  ⟨none, some 177, .pick (.tmp 172) (.tmp 176) (.const (.bool false))⟩])
 (.cond (.tmp 177) (.seq (.region [⟨none, some 178, .loadN 9 (.tmp 8)⟩,
  ⟨none, none, .store 9 (.tmp 2) (.tmp 178)⟩,
  ⟨none, some 3, .mv (.const (.bool true))⟩])
 .ret) .skip)))))))
 (.region [⟨none, some 26, .mv (.tmp 7)⟩,
  ⟨none, some 27, .bin .add (.tmp 26) (.const (.int .i64 1))⟩,
  ⟨none, some 7, .mv (.tmp 27)⟩]))))))))
 (.region [⟨none, some 20, .mv (.tmp 5)⟩,
  ⟨none, some 21, .bin .add (.tmp 20) (.const (.int .i64 1))⟩,
  ⟨none, some 5, .mv (.tmp 21)⟩]))))))
 (.seq (.region [⟨none, some 179, .build [.int .i64 0, .int .i64 0, .int .i64 0, .int .i64 0, .int .i64 0, .bool false, .bool false, .int .i64 0, .int .i64 0] []⟩,
  ⟨none, none, .store 9 (.tmp 2) (.tmp 179)⟩,
  ⟨none, some 3, .mv (.const (.bool false))⟩])
 .ret)))),
 [.cellN 2 9, .tmp 3]⟩
theorem c_ref09_Read : compF P0 pf Go.Proofs.Tryz.f10 = some L_ref09_Read := by kernel_rfl
/-- undertow/show.Number -/
abbrev n_show_Number : Nat := 11
def L_show_Number : LFn := ⟨20, (.seq (.region [⟨none, some 2, .mv (.const (.int .i64 0))⟩,
  ⟨none, some 3, .mv (.const (.bool false))⟩])
 (.seq (.region [⟨none, some 7, .mv (.tmp 0)⟩,
  ⟨none, some 8, .call (.func 30) [(.tmp 7), (.const (.int .i64 10)), (.const (.int .i64 64))]⟩,
  ⟨none, some 6, .mv (.tmp 8)⟩,
  ⟨none, some 9, .ext (.tmp 6) 0⟩,
  ⟨none, some 10, .ext (.tmp 6) 1⟩,
  ⟨none, some 4, .mv (.tmp 9)⟩,
  ⟨none, some 5, .mv (.tmp 10)⟩])
 (.seq (.seq (.region [⟨none, some 11, .mv (.tmp 5)⟩,
  ⟨none, some 12, .isNil 1 true (.tmp 11)⟩,
  ⟨none, some 13, .mv (.tmp 12)⟩,
  ⟨some (13, false), some 14, .mv (.tmp 4)⟩,
  ⟨some (13, false), some 15, .call (.func 31) [(.tmp 14), (.const (.int .i64 10))]⟩,
  ⟨some (13, false), some 16, .mv (.tmp 0)⟩,
  ⟨some (13, false), some 17, .bin .neq (.tmp 15) (.tmp 16)⟩,
  ⟨none, some 18, .pick (.tmp 13) (.const (.bool true)) (.tmp 17)⟩])
 (.cond (.tmp 18) (.seq (.region [⟨none, some 2, .mv (.const (.int .i64 0))⟩,
  ⟨none, some 3, .mv (.const (.bool false))⟩])
 .ret) .skip))
 (.seq (.region [⟨none, some 19, .mv (.tmp 4)⟩,
  ⟨none, some 2, .mv (.tmp 19)⟩,
  ⟨none, some 3, .mv (.const (.bool true))⟩])
 .ret)))),
 [.tmp 2, .tmp 3]⟩
theorem c_show_Number : compF P0 pf Go.Proofs.Tryz.f11 = some L_show_Number := by kernel_rfl
/-- undertow/show.Register -/
abbrev n_show_Register : Nat := 12
def L_show_Register : LFn := ⟨33, (.seq (.region [⟨none, some 2, .mv (.const (.int .i64 0))⟩,
  ⟨none, some 3, .mv (.const (.bool false))⟩])
 (.seq (.region [⟨none, some 9, .mv (.tmp 0)⟩,
  ⟨none, some 10, .call (.func 32) [(.tmp 9), (.const (.string ⟨#[120]⟩))]⟩,
  ⟨none, some 8, .mv (.tmp 10)⟩,
  ⟨none, some 11, .ext (.tmp 8) 0⟩,
  ⟨none, some 12, .ext (.tmp 8) 1⟩,
  ⟨none, some 4, .mv (.tmp 11)⟩,
  ⟨none, some 5, .mv (.tmp 12)⟩])
 (.seq (.region [⟨none, some 14, .mv (.tmp 4)⟩,
  ⟨none, some 15, .call (.func 11) [(.tmp 14)]⟩,
  ⟨none, some 13, .mv (.tmp 15)⟩,
  ⟨none, some 16, .ext (.tmp 13) 0⟩,
  ⟨none, some 17, .ext (.tmp 13) 1⟩,
  ⟨none, some 6, .mv (.tmp 16)⟩,
  ⟨none, some 7, .mv (.tmp 17)⟩])
 (.seq (.seq (.region [⟨none, some 18, .mv (.tmp 5)⟩,
  ⟨none, some 19, .un .not (.tmp 18)⟩,
  ⟨none, some 20, .mv (.tmp 19)⟩,
  ⟨some (20, false), some 21, .mv (.tmp 7)⟩,
  ⟨some (20, false), some 22, .un .not (.tmp 21)⟩,
  ⟨none, some 23, .pick (.tmp 20) (.const (.bool true)) (.tmp 22)⟩,
  ⟨none, some 24, .mv (.tmp 23)⟩,
  ⟨some (24, false), some 25, .mv (.tmp 6)⟩,
  ⟨some (24, false), some 26, .bin .lss (.tmp 25) (.const (.int .i64 0))⟩,
  ⟨none, some 27, .pick (.tmp 24) (.const (.bool true)) (.tmp 26)⟩,
  ⟨none, some 28, .mv (.tmp 27)⟩,
  ⟨some (28, false), some 29, .mv (.tmp 6)⟩,
  ⟨some (28, false), some 30, .bin .gtr (.tmp 29) (.const (.int .i64 31))⟩,
  ⟨none, some 31, .pick (.tmp 28) (.const (.bool true)) (.tmp 30)⟩])
 (.cond (.tmp 31) (.seq (.region [⟨none, some 2, .mv (.const (.int .i64 0))⟩,
  ⟨none, some 3, .mv (.const (.bool false))⟩])
 .ret) .skip))
 (.seq (.region [⟨none, some 32, .mv (.tmp 6)⟩,
  ⟨none, some 2, .mv (.tmp 32)⟩,
  ⟨none, some 3, .mv (.const (.bool true))⟩])
 .ret))))),
 [.tmp 2, .tmp 3]⟩
theorem c_show_Register : compF P0 pf Go.Proofs.Tryz.f12 = some L_show_Register := by kernel_rfl
/-- undertow/encode.Right -/
abbrev n_encode_Right : Nat := 13
def L_encode_Right : LFn := ⟨94, (.seq (.region [⟨none, some 1, .box (.tmp 0)⟩,
  ⟨none, some 2, .mv (.const (.bool false))⟩])
 (.seq (.region [⟨none, some 9, .loadN 9 (.tmp 1)⟩,
  ⟨none, some 10, .call (.func 33) [(.tmp 9)]⟩,
  ⟨none, some 8, .mv (.tmp 10)⟩,
  ⟨none, some 11, .ext (.tmp 8) 0⟩,
  ⟨none, some 12, .ext (.tmp 8) 1⟩,
  ⟨none, some 3, .mv (.tmp 11)⟩,
  ⟨none, some 4, .mv (.tmp 12)⟩])
 (.seq (.region [⟨none, some 13, .fad 0 (.tmp 1)⟩,
  ⟨none, some 14, .load1 (.tmp 13)⟩,
  ⟨none, some 15, .call (.func 34) [(.tmp 14)]⟩,
  ⟨none, some 5, .mv (.tmp 15)⟩])
 (.seq (.block 0 (.seq (.seq (.region [⟨none, some 17, .mv (.tmp 5)⟩,
  ⟨none, some 18, .bin .eql (.tmp 17) (.const (.int .i64 0))⟩,
  ⟨none, some 16, .mv (.tmp 18)⟩])
 (.cond (.tmp 16) .skip (.seq (.region [⟨none, some 19, .mv (.tmp 4)⟩,
  ⟨none, some 20, .un .not (.tmp 19)⟩,
  ⟨none, some 16, .mv (.tmp 20)⟩])
 (.cond (.tmp 16) .skip (.seq (.region [⟨none, some 21, .loadN 9 (.tmp 1)⟩,
  ⟨none, some 22, .call (.func 35) [(.tmp 21)]⟩,
  ⟨none, some 23, .loadN 9 (.tmp 1)⟩,
  ⟨none, some 24, .eqA [(0, 0), (1, 0), (2, 0), (3, 0), (4, 0), (5, 1), (6, 1), (7, 0), (8, 0)] true (.tmp 22) (.tmp 23)⟩,
  ⟨none, some 16, .mv (.tmp 24)⟩])
 (.cond (.tmp 16) .skip (.region [⟨none, some 25, .fad 5 (.tmp 1)⟩,
  ⟨none, some 26, .load1 (.tmp 25)⟩,
  ⟨none, some 27, .mv (.tmp 26)⟩,
  ⟨some (27, false), some 28, .fad 6 (.tmp 1)⟩,
  ⟨some (27, false), some 29, .load1 (.tmp 28)⟩,
  ⟨none, some 30, .pick (.tmp 27) (.const (.bool true)) (.tmp 29)⟩,
  ⟨none, some 31, .mv (.tmp 30)⟩,
  ⟨some (31, true), some 32, .mv (.tmp 5)⟩,
  ⟨some (31, true), some 33, .bin .lss (.tmp 32) (.const (.int .i64 10))⟩,
  ⟨none, some 34, .pick (.tmp 31) (.tmp 33) (.const (.bool false))⟩,
  ⟨none, some 16, .mv (.tmp 34)⟩])))))))
 (.cond (.tmp 16) (.seq (.region [⟨none, some 2, .mv (.const (.bool false))⟩])
 .ret) (.seq (.region [⟨none, some 36, .fad 0 (.tmp 1)⟩,
  ⟨none, some 37, .load1 (.tmp 36)⟩,
  ⟨none, some 38, .bin .eql (.tmp 37) (.const (.int .i64 50))⟩,
  ⟨none, some 35, .mv (.tmp 38)⟩])
 (.cond (.tmp 35) (.seq (.region [⟨none, some 39, .fad 7 (.tmp 1)⟩,
  ⟨none, some 40, .load1 (.tmp 39)⟩,
  ⟨none, some 41, .bin .geq (.tmp 40) (.const (.int .i64 0))⟩,
  ⟨none, some 42, .mv (.tmp 41)⟩,
  ⟨some (42, true), some 43, .fad 7 (.tmp 1)⟩,
  ⟨some (42, true), some 44, .load1 (.tmp 43)⟩,
  ⟨some (42, true), some 45, .bin .leq (.tmp 44) (.const (.int .i64 15))⟩,
  ⟨none, some 46, .pick (.tmp 42) (.tmp 45) (.const (.bool false))⟩,
  ⟨none, some 47, .mv (.tmp 46)⟩,
  ⟨some (47, true), some 48, .fad 8 (.tmp 1)⟩,
  ⟨some (47, true), some 49, .load1 (.tmp 48)⟩,
  ⟨some (47, true), some 50, .bin .geq (.tmp 49) (.const (.int .i64 0))⟩,
  ⟨none, some 51, .pick (.tmp 47) (.tmp 50) (.const (.bool false))⟩,
  ⟨none, some 52, .mv (.tmp 51)⟩,
  ⟨some (52, true), some 53, .fad 8 (.tmp 1)⟩,
  ⟨some (52, true), some 54, .load1 (.tmp 53)⟩,
  ⟨some (52, true), some 55, .bin .leq (.tmp 54) (.const (.int .i64 15))⟩,
  ⟨none, some 56, .pick (.tmp 52) (.tmp 55) (.const (.bool false))⟩,
  ⟨none, some 2, .mv (.tmp 56)⟩])
 .ret) (.seq (.region [⟨none, some 58, .fad 0 (.tmp 1)⟩,
  ⟨none, some 59, .load1 (.tmp 58)⟩,
  ⟨none, some 60, .bin .eql (.tmp 59) (.const (.int .i64 51))⟩,
  ⟨none, some 57, .mv (.tmp 60)⟩])
 (.cond (.tmp 57) (.seq (.region [⟨none, some 61, .fad 7 (.tmp 1)⟩,
  ⟨none, some 62, .load1 (.tmp 61)⟩,
  ⟨none, some 63, .bin .eql (.tmp 62) (.const (.int .i64 3))⟩,
  ⟨none, some 64, .mv (.tmp 63)⟩,
  ⟨some (64, true), some 65, .fad 8 (.tmp 1)⟩,
  ⟨some (64, true), some 66, .load1 (.tmp 65)⟩,
  ⟨some (64, true), some 67, .bin .eql (.tmp 66) (.const (.int .i64 3))⟩,
  ⟨none, some 68, .pick (.tmp 64) (.tmp 67) (.const (.bool false))⟩,
  ⟨none, some 2, .mv (.tmp 68)⟩])
 .ret) .skip)))))))
 (.seq (.seq (.region [⟨none, some 69, .fad 1 (.tmp 1)⟩,
  ⟨none, some 70, .load1 (.tmp 69)⟩,
  ⟨none, some 71, .fad 2 (.tmp 1)⟩,
  ⟨none, some 72, .load1 (.tmp 71)⟩,
  ⟨none, some 73, .fad 3 (.tmp 1)⟩,
  ⟨none, some 74, .load1 (.tmp 73)⟩,
  ⟨none, some 75, .build [.int .i64 0, .int .i64 0, .int .i64 0] [(0, 1, (.tmp 70)), (1, 1, (.tmp 72)), (2, 1, (.tmp 74))]⟩,
  ⟨none, some 76, .mv (.const (.int .i64 0))⟩])
 (.block 1 (.loop (.seq (.region [⟨none, some 77, .bin .lss (.tmp 76) (.const (.int .i64 3))⟩])
 (.seq (.cond (.tmp 77) .skip (.exit 1))
 (.seq (.block 2 (.seq (.region [⟨none, some 78, .ix1 3 (.tmp 75) (.tmp 76)⟩,
  ⟨none, some 7, .mv (.tmp 78)⟩])
 (.seq (.region [⟨none, some 79, .mv (.tmp 7)⟩,
  ⟨none, some 80, .bin .lss (.tmp 79) (.const (.int .i64 0))⟩,
  ⟨none, some 81, .mv (.tmp 80)⟩,
  ⟨some (81, false), some 82, .mv (.tmp 7)⟩,
  ⟨some (81, false), some 83, .bin .gtr (.tmp 82) (.const (.int .i64 31))⟩,
  ⟨none, some 84, .pick (.tmp 81) (.const (.bool true)) (.tmp 83)⟩])
 (.cond (.tmp 84) (.seq (.region [⟨none, some 2, .mv (.const (.bool false))⟩])
 .ret) .skip))))
 (.region [⟨none, some 85, .bin .add (.tmp 76) (.const (.int .i64 1))⟩,
  ⟨none, some 76, .mv (.tmp 85)⟩])))))))
 (.seq (.region [⟨none, some 86, .fad 7 (.tmp 1)⟩,
  ⟨none, some 87, .load1 (.tmp 86)⟩,
  ⟨none, some 88, .bin .eql (.tmp 87) (.const (.int .i64 0))⟩,
  ⟨none, some 89, .mv (.tmp 88)⟩,
  ⟨some (89, true), some 90, .fad 8 (.tmp 1)⟩,
  ⟨some (89, true), some 91, .load1 (.tmp 90)⟩,
  ⟨some (89, true), some 92, .bin .eql (.tmp 91) (.const (.int .i64 0))⟩,
  ⟨none, some 93, .pick (.tmp 89) (.tmp 92) (.const (.bool false))⟩,
  ⟨none, some 2, .mv (.tmp 93)⟩])
 .ret)))))),
 [.tmp 2]⟩
theorem c_encode_Right : compF P0 pf Go.Proofs.Tryz.f13 = some L_encode_Right := by kernel_rfl
/-- undertow/show.text -/
abbrev n_show_text : Nat := 14
def L_show_text : LFn := ⟨17, (.seq (.region [⟨none, some 1, .box (.tmp 0)⟩,
  ⟨none, some 2, .mv (.const (.string ⟨#[]⟩))⟩])
 (.seq (.region [⟨none, some 4, .loadN 9 (.tmp 1)⟩,
  ⟨none, some 5, .call (.func 36) [(.tmp 4)]⟩,
  ⟨none, some 3, .mv (.tmp 5)⟩])
 (.seq (.seq (.region [⟨none, some 6, .mv (.tmp 3)⟩,
  ⟨none, some 7, .lenS (.tmp 6)⟩,
  ⟨none, some 8, .bin .eql (.tmp 7) (.const (.int .i64 0))⟩])
 (.cond (.tmp 8) (.seq (.region [⟨none, some 9, .loadN 9 (.tmp 1)⟩,
  ⟨none, some 10, .call (.func 37) [(.tmp 9)]⟩,
  ⟨none, some 2, .mv (.tmp 10)⟩])
 .ret) .skip))
 (.seq (.region [⟨none, some 11, .loadN 9 (.tmp 1)⟩,
  ⟨none, some 12, .call (.func 37) [(.tmp 11)]⟩,
  ⟨none, some 13, .bin .add (.tmp 12) (.const (.string ⟨#[32]⟩))⟩,
  ⟨none, some 14, .mv (.tmp 3)⟩,
  ⟨none, some 15, .call (.func 38) [(.tmp 14), (.const (.string ⟨#[44, 32]⟩))]⟩,
  ⟨none, some 16, .bin .add (.tmp 13) (.tmp 15)⟩,
  ⟨none, some 2, .mv (.tmp 16)⟩])
 .ret)))),
 [.tmp 2]⟩
theorem c_show_text : compF P0 pf Go.Proofs.Tryz.f14 = some L_show_text := by kernel_rfl
/-- undertow/undertowref05.Sort -/
abbrev n_ref05_Sort : Nat := 15
def L_ref05_Sort : LFn := ⟨28, (.seq (.region [⟨none, some 2, .mv (.const (.int .i64 0))⟩])
 (.seq (.region [⟨none, some 5, .row 1 12 (zeroRow [.int .i64 0] 12) [(0, 1, (.const (.int .i64 2))), (1, 1, (.const (.int .i64 2))), (2, 1, (.const (.int .i64 6))), (3, 1, (.const (.int .i64 7))), (4, 1, (.const (.int .i64 4))), (5, 1, (.const (.int .i64 13))), (6, 1, (.const (.int .i64 15))), (7, 1, (.const (.int .i64 2))), (8, 1, (.const (.int .i64 2))), (9, 1, (.const (.int .i64 2))), (10, 1, (.const (.int .i64 2))), (11, 1, (.const (.int .i64 18)))]⟩,
  ⟨none, some 3, .mv (.tmp 5)⟩])
 (.seq (.seq (.region [⟨none, some 6, .mv (.tmp 0)⟩,
  ⟨none, some 7, .bin .lss (.tmp 6) (.const (.int .i64 1))⟩])
 (.cond (.tmp 7) (.seq (.region [⟨none, some 2, .mv (.const (.int .i64 0))⟩])
 .ret) .skip))
 (.seq (.seq (.region [⟨none, some 4, .mv (.const (.int .i64 0))⟩])
 (.block 0 (.loop (.seq (.seq (.region [⟨none, some 8, .mv (.tmp 4)⟩,
  ⟨none, some 9, .mv (.tmp 3)⟩,
  ⟨none, some 10, .lenS (.tmp 9)⟩,
  ⟨none, some 11, .bin .lss (.tmp 8) (.tmp 10)⟩])
 (.cond (.tmp 11) .skip (.exit 0)))
 (.seq (.block 1 (.seq (.seq (.region [⟨none, some 14, .mv (.tmp 0)⟩,
  ⟨none, some 15, .mv (.tmp 3)⟩,
  ⟨none, some 16, .mv (.tmp 4)⟩,
  ⟨none, some 17, .iadS 1 (.tmp 15) (.tmp 16)⟩,
  ⟨none, some 18, .load1 (.tmp 17)⟩,
  ⟨none, some 19, .bin .leq (.tmp 14) (.tmp 18)⟩])
 (.cond (.tmp 19) (.seq (.region [⟨none, some 20, .mv (.tmp 4)⟩,
  ⟨none, some 21, .bin .add (.tmp 20) (.const (.int .i64 1))⟩,
  ⟨none, some 2, .mv (.tmp 21)⟩])
 .ret) .skip))
 (.region [⟨none, some 22, .mv (.tmp 0)⟩,
  ⟨none, some 23, .mv (.tmp 3)⟩,
  ⟨none, some 24, .mv (.tmp 4)⟩,
  ⟨none, some 25, .iadS 1 (.tmp 23) (.tmp 24)⟩,
  ⟨none, some 26, .load1 (.tmp 25)⟩,
  ⟨none, some 27, .bin .sub (.tmp 22) (.tmp 26)⟩,
  ⟨none, some 0, .mv (.tmp 27)⟩])))
 (.region [⟨none, some 12, .mv (.tmp 4)⟩,
  ⟨none, some 13, .bin .add (.tmp 12) (.const (.int .i64 1))⟩,
  ⟨none, some 4, .mv (.tmp 13)⟩]))))))
 (.seq (.region [⟨none, some 2, .mv (.const (.int .i64 0))⟩])
 .ret))))),
 [.tmp 2]⟩
theorem c_ref05_Sort : compF P0 pf Go.Proofs.Tryz.f15 = some L_ref05_Sort := by kernel_rfl
/-- undertow/undertowref05.Writes -/
abbrev n_ref05_Writes : Nat := 16
def L_ref05_Writes : LFn := ⟨24, (.seq (.region [⟨none, some 2, .mv (.const (.bool false))⟩])
 (.seq (.region [⟨none, some 4, .mv (.tmp 0)⟩,
  ⟨none, some 5, .call (.func 15) [(.tmp 4)]⟩,
  ⟨none, some 3, .mv (.tmp 5)⟩])
 (.seq (.region [⟨none, some 6, .mv (.tmp 3)⟩,
  ⟨none, some 7, .bin .neq (.tmp 6) (.const (.int .i64 0))⟩,
  ⟨none, some 8, .mv (.tmp 7)⟩,
  ⟨some (8, true), some 9, .mv (.tmp 3)⟩,
  ⟨some (8, true), some 10, .bin .neq (.tmp 9) (.const (.int .i64 3))⟩,
  ⟨none, some 11, .pick (.tmp 8) (.tmp 10) (.const (.bool false))⟩,
  ⟨none, some 12, .mv (.tmp 11)⟩,
  ⟨some (12, true), some 13, .mv (.tmp 3)⟩,
  ⟨some (12, true), some 14, .bin .neq (.tmp 13) (.const (.int .i64 5))⟩,
  ⟨none, some 15, .pick (.tmp 12) (.tmp 14) (.const (.bool false))⟩,
  ⟨none, some 16, .mv (.tmp 15)⟩,
  ⟨some (16, true), some 17, .mv (.tmp 3)⟩,
  ⟨some (16, true), some 18, .bin .neq (.tmp 17) (.const (.int .i64 8))⟩,
  ⟨none, some 19, .pick (.tmp 16) (.tmp 18) (.const (.bool false))⟩,
  ⟨none, some 20, .mv (.tmp 19)⟩,
  ⟨some (20, true), some 21, .mv (.tmp 3)⟩,
  ⟨some (20, true), some 22, .bin .neq (.tmp 21) (.const (.int .i64 9))⟩,
  ⟨none, some 23, .pick (.tmp 20) (.tmp 22) (.const (.bool false))⟩,
  ⟨none, some 2, .mv (.tmp 23)⟩])
 .ret))),
 [.tmp 2]⟩
theorem c_ref05_Writes : compF P0 pf Go.Proofs.Tryz.f16 = some L_ref05_Writes := by kernel_rfl
/-- undertow/undertowref05.First -/
abbrev n_ref05_First : Nat := 17
def L_ref05_First : LFn := ⟨21, (.seq (.region [⟨none, some 2, .mv (.const (.bool false))⟩])
 (.seq (.region [⟨none, some 4, .mv (.tmp 0)⟩,
  ⟨none, some 5, .call (.func 15) [(.tmp 4)]⟩,
  ⟨none, some 3, .mv (.tmp 5)⟩])
 (.seq (.region [⟨none, some 6, .mv (.tmp 0)⟩,
  ⟨none, some 7, .call (.func 22) [(.tmp 6)]⟩,
  ⟨none, some 8, .bin .eql (.tmp 7) (.const (.string ⟨#[106, 97, 108, 114]⟩))⟩,
  ⟨none, some 9, .mv (.tmp 8)⟩,
  ⟨some (9, false), some 10, .mv (.tmp 3)⟩,
  ⟨some (9, false), some 11, .bin .geq (.tmp 10) (.const (.int .i64 3))⟩,
  ⟨some (9, false), some 12, .mv (.tmp 11)⟩,
  ⟨some (12, true), some 13, .mv (.tmp 3)⟩,
  ⟨some (12, true), some 14, .bin .leq (.tmp 13) (.const (.int .i64 7))⟩,
  ⟨some (9, false), some 15, .pick (.tmp 12) (.tmp 14) (.const (.bool false))⟩,
  ⟨none, some 16, .pick (.tmp 9) (.const (.bool true)) (.tmp 15)⟩,
  ⟨none, some 17, .mv (.tmp 16)⟩,
  ⟨some (17, false), some 18, .mv (.tmp 3)⟩,
  ⟨some (17, false), some 19, .bin .geq (.tmp 18) (.const (.int .i64 10))⟩,
  ⟨none, some 20, .pick (.tmp 17) (.const (.bool true)) (.tmp 19)⟩,
  ⟨none, some 2, .mv (.tmp 20)⟩])
 .ret))),
 [.tmp 2]⟩
theorem c_ref05_First : compF P0 pf Go.Proofs.Tryz.f17 = some L_ref05_First := by kernel_rfl
/-- undertow/undertowref05.Second -/
abbrev n_ref05_Second : Nat := 18
def L_ref05_Second : LFn := ⟨20, (.seq (.region [⟨none, some 2, .mv (.const (.bool false))⟩])
 (.seq (.region [⟨none, some 4, .mv (.tmp 0)⟩,
  ⟨none, some 5, .call (.func 15) [(.tmp 4)]⟩,
  ⟨none, some 3, .mv (.tmp 5)⟩])
 (.seq (.region [⟨none, some 6, .mv (.tmp 3)⟩,
  ⟨none, some 7, .bin .eql (.tmp 6) (.const (.int .i64 3))⟩,
  ⟨none, some 8, .mv (.tmp 7)⟩,
  ⟨some (8, false), some 9, .mv (.tmp 3)⟩,
  ⟨some (8, false), some 10, .bin .eql (.tmp 9) (.const (.int .i64 5))⟩,
  ⟨none, some 11, .pick (.tmp 8) (.const (.bool true)) (.tmp 10)⟩,
  ⟨none, some 12, .mv (.tmp 11)⟩,
  ⟨some (12, false), some 13, .mv (.tmp 3)⟩,
  ⟨some (12, false), some 14, .bin .eql (.tmp 13) (.const (.int .i64 7))⟩,
  ⟨none, some 15, .pick (.tmp 12) (.const (.bool true)) (.tmp 14)⟩,
  ⟨none, some 16, .mv (.tmp 15)⟩,
  ⟨some (16, false), some 17, .mv (.tmp 3)⟩,
  ⟨some (16, false), some 18, .bin .geq (.tmp 17) (.const (.int .i64 11))⟩,
  ⟨none, some 19, .pick (.tmp 16) (.const (.bool true)) (.tmp 18)⟩,
  ⟨none, some 2, .mv (.tmp 19)⟩])
 .ret))),
 [.tmp 2]⟩
theorem c_ref05_Second : compF P0 pf Go.Proofs.Tryz.f18 = some L_ref05_Second := by kernel_rfl
/-- undertow/undertowref06.Shift -/
abbrev n_ref06_Shift : Nat := 19
def L_ref06_Shift : LFn := ⟨26, (.seq (.region [⟨none, some 2, .mv (.const (.int .i64 0))⟩])
 (.seq (.region [⟨none, some 4, .mv (.tmp 0)⟩,
  ⟨none, some 5, .call (.func 22) [(.tmp 4)]⟩,
  ⟨none, some 3, .mv (.tmp 5)⟩])
 (.seq (.seq (.region [⟨none, some 6, .mv (.tmp 3)⟩,
  ⟨none, some 7, .bin .eql (.tmp 6) (.const (.string ⟨#[115, 108, 108, 105]⟩))⟩,
  ⟨none, some 8, .mv (.tmp 7)⟩,
  ⟨some (8, false), some 9, .mv (.tmp 3)⟩,
  ⟨some (8, false), some 10, .bin .eql (.tmp 9) (.const (.string ⟨#[115, 114, 108, 105]⟩))⟩,
  ⟨none, some 11, .pick (.tmp 8) (.const (.bool true)) (.tmp 10)⟩,
  ⟨none, some 12, .mv (.tmp 11)⟩,
  ⟨some (12, false), some 13, .mv (.tmp 3)⟩,
  ⟨some (12, false), some 14, .bin .eql (.tmp 13) (.const (.string ⟨#[115, 114, 97, 105]⟩))⟩,
  ⟨none, some 15, .pick (.tmp 12) (.const (.bool true)) (.tmp 14)⟩])
 (.cond (.tmp 15) (.seq (.region [⟨none, some 2, .mv (.const (.int .i64 6))⟩])
 .ret) .skip))
 (.seq (.seq (.region [⟨none, some 16, .mv (.tmp 3)⟩,
  ⟨none, some 17, .bin .eql (.tmp 16) (.const (.string ⟨#[115, 108, 108, 105, 119]⟩))⟩,
  ⟨none, some 18, .mv (.tmp 17)⟩,
  ⟨some (18, false), some 19, .mv (.tmp 3)⟩,
  ⟨some (18, false), some 20, .bin .eql (.tmp 19) (.const (.string ⟨#[115, 114, 108, 105, 119]⟩))⟩,
  ⟨none, some 21, .pick (.tmp 18) (.const (.bool true)) (.tmp 20)⟩,
  ⟨none, some 22, .mv (.tmp 21)⟩,
  ⟨some (22, false), some 23, .mv (.tmp 3)⟩,
  ⟨some (22, false), some 24, .bin .eql (.tmp 23) (.const (.string ⟨#[115, 114, 97, 105, 119]⟩))⟩,
  ⟨none, some 25, .pick (.tmp 22) (.const (.bool true)) (.tmp 24)⟩])
 (.cond (.tmp 25) (.seq (.region [⟨none, some 2, .mv (.const (.int .i64 5))⟩])
 .ret) .skip))
 (.seq (.region [⟨none, some 2, .mv (.const (.int .i64 0))⟩])
 .ret))))),
 [.tmp 2]⟩
theorem c_ref06_Shift : compF P0 pf Go.Proofs.Tryz.f19 = some L_ref06_Shift := by kernel_rfl
/-- undertow/undertowref06.Format -/
abbrev n_ref06_Format : Nat := 20
def L_ref06_Format : LFn := ⟨21, (.seq (.region [⟨none, some 2, .mv (.const (.int .i64 0))⟩])
 (.seq (.seq (.region [⟨none, some 3, .mv (.tmp 0)⟩,
  ⟨none, some 4, .call (.func 19) [(.tmp 3)]⟩,
  ⟨none, some 5, .bin .gtr (.tmp 4) (.const (.int .i64 0))⟩])
 (.cond (.tmp 5) (.seq (.region [⟨none, some 2, .mv (.const (.int .i64 0))⟩])
 .ret) .skip))
 (.seq (.seq (.region [⟨none, some 6, .mv (.tmp 0)⟩,
  ⟨none, some 7, .call (.func 15) [(.tmp 6)]⟩])
 (.block 0 (.seq (.region [⟨none, some 9, .bin .eql (.tmp 7) (.const (.int .i64 1))⟩,
  ⟨none, some 8, .mv (.tmp 9)⟩])
 (.cond (.tmp 8) (.seq (.region [⟨none, some 2, .mv (.const (.int .i64 4))⟩])
 .ret) (.seq (.region [⟨none, some 11, .bin .eql (.tmp 7) (.const (.int .i64 2))⟩,
  ⟨none, some 10, .mv (.tmp 11)⟩])
 (.cond (.tmp 10) (.seq (.seq (.region [⟨none, some 12, .mv (.tmp 0)⟩,
  ⟨none, some 13, .bin .eql (.tmp 12) (.const (.int .i64 3))⟩])
 (.cond (.tmp 13) (.seq (.region [⟨none, some 2, .mv (.const (.int .i64 5))⟩])
 .ret) .skip))
 (.seq (.region [⟨none, some 2, .mv (.const (.int .i64 1))⟩])
 .ret)) (.seq (.region [⟨none, some 15, .bin .eql (.tmp 7) (.const (.int .i64 3))⟩,
  ⟨none, some 14, .mv (.tmp 15)⟩])
 (.cond (.tmp 14) (.seq (.region [⟨none, some 2, .mv (.const (.int .i64 3))⟩])
 .ret) (.seq (.seq (.region [⟨none, some 17, .bin .eql (.tmp 7) (.const (.int .i64 4))⟩,
  ⟨none, some 16, .mv (.tmp 17)⟩])
 (.cond (.tmp 16) .skip (.region [⟨none, some 18, .bin .eql (.tmp 7) (.const (.int .i64 6))⟩,
  ⟨none, some 16, .mv (.tmp 18)⟩])))
 (.cond (.tmp 16) (.seq (.region [⟨none, some 2, .mv (.const (.int .i64 1))⟩])
 .ret) (.seq (.region [⟨none, some 20, .bin .eql (.tmp 7) (.const (.int .i64 5))⟩,
  ⟨none, some 19, .mv (.tmp 20)⟩])
 (.cond (.tmp 19) (.seq (.region [⟨none, some 2, .mv (.const (.int .i64 2))⟩])
 .ret) .skip))))))))))))
 (.seq (.region [⟨none, some 2, .mv (.const (.int .i64 0))⟩])
 .ret)))),
 [.tmp 2]⟩
theorem c_ref06_Format : compF P0 pf Go.Proofs.Tryz.f20 = some L_ref06_Format := by kernel_rfl
/-- undertow/undertowref04.May -/
abbrev n_ref04_May : Nat := 21
def L_ref04_May : LFn := ⟨54, (.seq (.region [⟨none, some 4, .mv (.const (.bool false))⟩])
 (.seq (.seq (.region [⟨none, some 5, .mv (.tmp 0)⟩])
 (.block 0 (.seq (.seq (.region [⟨none, some 7, .bin .eql (.tmp 5) (.const (.int .i64 1))⟩,
  ⟨none, some 6, .mv (.tmp 7)⟩])
 (.cond (.tmp 6) .skip (.region [⟨none, some 8, .bin .eql (.tmp 5) (.const (.int .i64 2))⟩,
  ⟨none, some 6, .mv (.tmp 8)⟩])))
 (.cond (.tmp 6) (.seq (.region [⟨none, some 9, .mv (.tmp 1)⟩,
  ⟨none, some 10, .bin .geq (.tmp 9) (.const (.int .i64 (-2048)))⟩,
  ⟨none, some 11, .mv (.tmp 10)⟩,
  ⟨some (11, true), some 12, .mv (.tmp 1)⟩,
  ⟨some (11, true), some 13, .bin .leq (.tmp 12) (.const (.int .i64 2047))⟩,
  ⟨none, some 14, .pick (.tmp 11) (.tmp 13) (.const (.bool false))⟩,
  ⟨none, some 4, .mv (.tmp 14)⟩])
 .ret) (.seq (.region [⟨none, some 16, .bin .eql (.tmp 5) (.const (.int .i64 3))⟩,
  ⟨none, some 15, .mv (.tmp 16)⟩])
 (.cond (.tmp 15) (.seq (.region [⟨none, some 17, .mv (.tmp 1)⟩,
  ⟨none, some 18, .bin .geq (.tmp 17) (.const (.int .i64 (-4096)))⟩,
  ⟨none, some 19, .mv (.tmp 18)⟩,
  ⟨some (19, true), some 20, .mv (.tmp 1)⟩,
  ⟨some (19, true), some 21, .bin .leq (.tmp 20) (.const (.int .i64 4095))⟩,
  ⟨none, some 22, .pick (.tmp 19) (.tmp 21) (.const (.bool false))⟩,
  ⟨none, some 23, .mv (.tmp 22)⟩,
  ⟨some (23, true), some 24, .mv (.tmp 1)⟩,
  ⟨some (23, true), some 25, .bin .rem (.tmp 24) (.const (.int .i64 2))⟩,
  ⟨some (23, true), some 26, .bin .eql (.tmp 25) (.const (.int .i64 0))⟩,
  ⟨none, some 27, .pick (.tmp 23) (.tmp 26) (.const (.bool false))⟩,
  ⟨none, some 4, .mv (.tmp 27)⟩])
 .ret) (.seq (.region [⟨none, some 29, .bin .eql (.tmp 5) (.const (.int .i64 4))⟩,
  ⟨none, some 28, .mv (.tmp 29)⟩])
 (.cond (.tmp 28) (.seq (.region [⟨none, some 30, .mv (.tmp 1)⟩,
  ⟨none, some 31, .bin .geq (.tmp 30) (.const (.int .i64 (-2147483648)))⟩,
  ⟨none, some 32, .mv (.tmp 31)⟩,
  ⟨some (32, true), some 33, .mv (.tmp 1)⟩,
  ⟨some (32, true), some 34, .bin .leq (.tmp 33) (.const (.int .i64 2147483647))⟩,
  ⟨none, some 35, .pick (.tmp 32) (.tmp 34) (.const (.bool false))⟩,
  ⟨none, some 36, .mv (.tmp 35)⟩,
  ⟨some (36, true), some 37, .mv (.tmp 1)⟩,
  ⟨some (36, true), some 38, .bin .rem (.tmp 37) (.const (.int .i64 4096))⟩,
  ⟨some (36, true), some 39, .bin .eql (.tmp 38) (.const (.int .i64 0))⟩,
  ⟨none, some 40, .pick (.tmp 36) (.tmp 39) (.const (.bool false))⟩,
  ⟨none, some 4, .mv (.tmp 40)⟩])
 .ret) (.seq (.region [⟨none, some 42, .bin .eql (.tmp 5) (.const (.int .i64 5))⟩,
  ⟨none, some 41, .mv (.tmp 42)⟩])
 (.cond (.tmp 41) (.seq (.region [⟨none, some 43, .mv (.tmp 1)⟩,
  ⟨none, some 44, .bin .geq (.tmp 43) (.const (.int .i64 (-1048576)))⟩,
  ⟨none, some 45, .mv (.tmp 44)⟩,
  ⟨some (45, true), some 46, .mv (.tmp 1)⟩,
  ⟨some (45, true), some 47, .bin .leq (.tmp 46) (.const (.int .i64 1048575))⟩,
  ⟨none, some 48, .pick (.tmp 45) (.tmp 47) (.const (.bool false))⟩,
  ⟨none, some 49, .mv (.tmp 48)⟩,
  ⟨some (49, true), some 50, .mv (.tmp 1)⟩,
  ⟨some (49, true), some 51, .bin .rem (.tmp 50) (.const (.int .i64 2))⟩,
  ⟨some (49, true), some 52, .bin .eql (.tmp 51) (.const (.int .i64 0))⟩,
  ⟨none, some 53, .pick (.tmp 49) (.tmp 52) (.const (.bool false))⟩,
  ⟨none, some 4, .mv (.tmp 53)⟩])
 .ret) .skip))))))))))
 (.seq (.region [⟨none, some 4, .mv (.const (.bool false))⟩])
 .ret))),
 [.tmp 4]⟩
theorem c_ref04_May : compF P0 pf Go.Proofs.Tryz.f21 = some L_ref04_May := by kernel_rfl
/-- undertow/undertowref05.Name -/
abbrev n_ref05_Name : Nat := 22
def L_ref05_Name : LFn := ⟨18, (.seq (.region [⟨none, some 2, .mv (.const (.string ⟨#[]⟩))⟩])
 (.seq (.region [⟨none, some 4, .call (.func 39) []⟩,
  ⟨none, some 3, .mv (.tmp 4)⟩])
 (.seq (.seq (.region [⟨none, some 5, .mv (.tmp 0)⟩,
  ⟨none, some 6, .bin .lss (.tmp 5) (.const (.int .i64 1))⟩,
  ⟨none, some 7, .mv (.tmp 6)⟩,
  ⟨some (7, false), some 8, .mv (.tmp 0)⟩,
  ⟨some (7, false), some 9, .mv (.tmp 3)⟩,
  ⟨some (7, false), some 10, .lenS (.tmp 9)⟩,
  ⟨some (7, false), some 11, .bin .gtr (.tmp 8) (.tmp 10)⟩,
  ⟨none, some 12, .pick (.tmp 7) (.const (.bool true)) (.tmp 11)⟩])
 (.cond (.tmp 12) (.seq (.region [⟨none, some 2, .mv (.const (.string ⟨#[]⟩))⟩])
 .ret) .skip))
 (.seq (.region [⟨none, some 13, .mv (.tmp 3)⟩,
  ⟨none, some 14, .mv (.tmp 0)⟩,
  ⟨none, some 15, .bin .sub (.tmp 14) (.const (.int .i64 1))⟩,
  ⟨none, some 16, .iadS 1 (.tmp 13) (.tmp 15)⟩,
  ⟨none, some 17, .load1 (.tmp 16)⟩,
  ⟨none, some 2, .mv (.tmp 17)⟩])
 .ret)))),
 [.tmp 2]⟩
theorem c_ref05_Name : compF P0 pf Go.Proofs.Tryz.f22 = some L_ref05_Name := by kernel_rfl
/-- undertow/undertowref09.Digits -/
abbrev n_ref09_Digits : Nat := 23
def L_ref09_Digits : LFn := ⟨28, (.seq (.region [⟨none, some 2, .mv (.const (.string ⟨#[]⟩))⟩])
 (.seq (.region [⟨none, some 3, .mv (.const (.string ⟨#[]⟩))⟩])
 (.seq (.region [⟨none, some 5, .mv (.tmp 0)⟩,
  ⟨none, some 6, .convI .u64 (.tmp 5)⟩,
  ⟨none, some 4, .mv (.tmp 6)⟩])
 (.seq (.seq (.region [⟨none, some 7, .mv (.tmp 0)⟩,
  ⟨none, some 8, .bin .lss (.tmp 7) (.const (.int .i64 0))⟩])
 (.cond (.tmp 8) (.region [⟨none, some 9, .mv (.tmp 4)⟩,
  ⟨none, some 10, .un .neg (.tmp 9)⟩,
  ⟨none, some 4, .mv (.tmp 10)⟩]) .skip))
 (.seq (.block 0 (.loop (.block 1 (.seq (.region [⟨none, some 11, .mv (.tmp 4)⟩,
  ⟨none, some 12, .bin .rem (.tmp 11) (.const (.int .u64 10))⟩,
  ⟨none, some 13, .bin .add (.const (.int .u64 48)) (.tmp 12)⟩,
  ⟨none, some 14, .convI .u8 (.tmp 13)⟩,
  ⟨none, some 15, .row 1 1 (zeroRow [.int .u8 0] 1) [(0, 1, (.tmp 14))]⟩,
  ⟨none, some 16, .b2s (.tmp 15)⟩,
  ⟨none, some 17, .mv (.tmp 3)⟩,
  ⟨none, some 18, .bin .add (.tmp 16) (.tmp 17)⟩,
  ⟨none, some 3, .mv (.tmp 18)⟩])
 (.seq (.region [⟨none, some 19, .mv (.tmp 4)⟩,
  ⟨none, some 20, .bin .quo (.tmp 19) (.const (.int .u64 10))⟩,
  ⟨none, some 4, .mv (.tmp 20)⟩])
 (.seq (.region [⟨none, some 21, .mv (.tmp 4)⟩,
  ⟨none, some 22, .bin .eql (.tmp 21) (.const (.int .u64 0))⟩])
 (.cond (.tmp 22) (.exit 0) .skip)))))))
 (.seq (.seq (.region [⟨none, some 23, .mv (.tmp 0)⟩,
  ⟨none, some 24, .bin .lss (.tmp 23) (.const (.int .i64 0))⟩])
 (.cond (.tmp 24) (.region [⟨none, some 25, .mv (.tmp 3)⟩,
  ⟨none, some 26, .bin .add (.const (.string ⟨#[45]⟩)) (.tmp 25)⟩,
  ⟨none, some 3, .mv (.tmp 26)⟩]) .skip))
 (.seq (.region [⟨none, some 27, .mv (.tmp 3)⟩,
  ⟨none, some 2, .mv (.tmp 27)⟩])
 .ret))))))),
 [.tmp 2]⟩
theorem c_ref09_Digits : compF P0 pf Go.Proofs.Tryz.f23 = some L_ref09_Digits := by kernel_rfl
/-- undertow/undertowref09.Set -/
abbrev n_ref09_Set : Nat := 24
def L_ref09_Set : LFn := ⟨30, (.seq (.region [⟨none, some 2, .mv (.const (.string ⟨#[]⟩))⟩])
 (.seq (.region [⟨none, some 3, .mv (.const (.string ⟨#[]⟩))⟩])
 (.seq (.seq (.region [⟨none, some 4, .mv (.tmp 0)⟩,
  ⟨none, some 5, .bin .quo (.tmp 4) (.const (.int .i64 8))⟩,
  ⟨none, some 6, .bin .rem (.tmp 5) (.const (.int .i64 2))⟩,
  ⟨none, some 7, .bin .eql (.tmp 6) (.const (.int .i64 1))⟩])
 (.cond (.tmp 7) (.region [⟨none, some 8, .mv (.tmp 3)⟩,
  ⟨none, some 9, .bin .add (.tmp 8) (.const (.string ⟨#[105]⟩))⟩,
  ⟨none, some 3, .mv (.tmp 9)⟩]) .skip))
 (.seq (.seq (.region [⟨none, some 10, .mv (.tmp 0)⟩,
  ⟨none, some 11, .bin .quo (.tmp 10) (.const (.int .i64 4))⟩,
  ⟨none, some 12, .bin .rem (.tmp 11) (.const (.int .i64 2))⟩,
  ⟨none, some 13, .bin .eql (.tmp 12) (.const (.int .i64 1))⟩])
 (.cond (.tmp 13) (.region [⟨none, some 14, .mv (.tmp 3)⟩,
  ⟨none, some 15, .bin .add (.tmp 14) (.const (.string ⟨#[111]⟩))⟩,
  ⟨none, some 3, .mv (.tmp 15)⟩]) .skip))
 (.seq (.seq (.region [⟨none, some 16, .mv (.tmp 0)⟩,
  ⟨none, some 17, .bin .quo (.tmp 16) (.const (.int .i64 2))⟩,
  ⟨none, some 18, .bin .rem (.tmp 17) (.const (.int .i64 2))⟩,
  ⟨none, some 19, .bin .eql (.tmp 18) (.const (.int .i64 1))⟩])
 (.cond (.tmp 19) (.region [⟨none, some 20, .mv (.tmp 3)⟩,
  ⟨none, some 21, .bin .add (.tmp 20) (.const (.string ⟨#[114]⟩))⟩,
  ⟨none, some 3, .mv (.tmp 21)⟩]) .skip))
 (.seq (.seq (.region [⟨none, some 22, .mv (.tmp 0)⟩,
  ⟨none, some 23, .bin .rem (.tmp 22) (.const (.int .i64 2))⟩,
  ⟨none, some 24, .bin .eql (.tmp 23) (.const (.int .i64 1))⟩])
 (.cond (.tmp 24) (.region [⟨none, some 25, .mv (.tmp 3)⟩,
  ⟨none, some 26, .bin .add (.tmp 25) (.const (.string ⟨#[119]⟩))⟩,
  ⟨none, some 3, .mv (.tmp 26)⟩]) .skip))
 (.seq (.seq (.region [⟨none, some 27, .mv (.tmp 3)⟩,
  ⟨none, some 28, .bin .eql (.tmp 27) (.const (.string ⟨#[]⟩))⟩])
 (.cond (.tmp 28) (.seq (.region [⟨none, some 2, .mv (.const (.string ⟨#[48]⟩))⟩])
 .ret) .skip))
 (.seq (.region [⟨none, some 29, .mv (.tmp 3)⟩,
  ⟨none, some 2, .mv (.tmp 29)⟩])
 .ret)))))))),
 [.tmp 2]⟩
theorem c_ref09_Set : compF P0 pf Go.Proofs.Tryz.f24 = some L_ref09_Set := by kernel_rfl
/-- undertow/show.guess -/
abbrev n_show_guess : Nat := 25
def L_show_guess : LFn := ⟨149, (.seq (.region [⟨none, some 2, .alloc [.int .i64 0, .int .i64 0, .int .i64 0, .int .i64 0, .int .i64 0, .bool false, .bool false, .int .i64 0, .int .i64 0]⟩])
 (.seq (.region [⟨none, some 11, .mv (.tmp 0)⟩,
  ⟨none, some 12, .call (.func 40) [(.tmp 11), (.const (.string ⟨#[32]⟩))]⟩,
  ⟨none, some 10, .mv (.tmp 12)⟩,
  ⟨none, some 13, .ext (.tmp 10) 0⟩,
  ⟨none, some 14, .ext (.tmp 10) 1⟩,
  ⟨none, some 15, .ext (.tmp 10) 2⟩,
  ⟨none, some 3, .mv (.tmp 13)⟩,
  ⟨none, some 4, .mv (.tmp 14)⟩,
  ⟨none, some 5, .mv (.tmp 15)⟩])
 (.seq (.region [⟨none, some 16, .mv (.tmp 3)⟩,
  ⟨none, some 17, .call (.func 41) [(.tmp 16)]⟩,
  ⟨none, some 6, .alloc [.int .i64 0, .int .i64 0, .int .i64 0, .int .i64 0, .int .i64 0, .bool false, .bool false, .int .i64 0, .int .i64 0]⟩,
  ⟨none, none, .store 9 (.tmp 6) (.tmp 17)⟩])
 (.seq (.seq (.region [⟨none, some 18, .fad 0 (.tmp 6)⟩,
  ⟨none, some 19, .load1 (.tmp 18)⟩,
  ⟨none, some 20, .bin .eql (.tmp 19) (.const (.int .i64 51))⟩])
 (.cond (.tmp 20) (.region [⟨none, some 21, .fad 7 (.tmp 6)⟩,
  ⟨none, none, .store 1 (.tmp 21) (.const (.int .i64 3))⟩,
  ⟨none, some 22, .fad 8 (.tmp 6)⟩,
  ⟨none, none, .store 1 (.tmp 22) (.const (.int .i64 3))⟩]) .skip))
 (.seq (.region [⟨none, some 23, .mv (.tmp 4)⟩,
  ⟨none, some 24, .call (.func 43) [(.tmp 23), (.const (.string ⟨#[41]⟩))]⟩,
  ⟨none, some 25, .call (.func 42) [(.tmp 24)]⟩,
  ⟨none, some 26, .rowM 3 (zeroRow [.string ⟨#[]⟩] 3) [(0, 1, (.const (.string ⟨#[]⟩))), (1, 1, (.const (.string ⟨#[]⟩))), (2, 1, (.const (.string ⟨#[]⟩)))]⟩,
  ⟨none, some 27, .app 1 16 (.tmp 25) (.tmp 26)⟩,
  ⟨none, some 7, .alloc [.slice none 0 0]⟩,
  ⟨none, none, .store 1 (.tmp 7) (.tmp 27)⟩])
 (.seq (.region [⟨none, some 28, .mkf 44 [] [(.tmp 7)]⟩,
  ⟨none, some 8, .mv (.tmp 28)⟩])
 (.seq (.region [⟨none, some 29, .mkf 45 [] [(.tmp 7)]⟩,
  ⟨none, some 9, .mv (.tmp 29)⟩])
 (.seq (.seq (.region [⟨none, some 30, .fad 0 (.tmp 6)⟩,
  ⟨none, some 31, .load1 (.tmp 30)⟩,
  ⟨none, some 32, .call (.func 34) [(.tmp 31)]⟩])
 (.block 0 (.seq (.region [⟨none, some 34, .bin .eql (.tmp 32) (.const (.int .i64 1))⟩,
  ⟨none, some 33, .mv (.tmp 34)⟩])
 (.cond (.tmp 33) (.region [⟨none, some 35, .mv (.tmp 8)⟩,
  ⟨none, some 36, .call (.tmp 35) [(.const (.int .i64 0))]⟩,
  ⟨none, some 37, .mv (.tmp 9)⟩,
  ⟨none, some 38, .call (.tmp 37) [(.const (.int .i64 1))]⟩,
  ⟨none, some 39, .fad 1 (.tmp 6)⟩,
  ⟨none, none, .store 1 (.tmp 39) (.tmp 36)⟩,
  ⟨none, some 40, .fad 4 (.tmp 6)⟩,
  ⟨none, none, .store 1 (.tmp 40) (.tmp 38)⟩]) (.seq (.region [⟨none, some 42, .bin .eql (.tmp 32) (.const (.int .i64 2))⟩,
  ⟨none, some 41, .mv (.tmp 42)⟩])
 (.cond (.tmp 41) (.seq (.region [⟨none, some 43, .mv (.tmp 8)⟩,
  ⟨none, some 44, .call (.tmp 43) [(.const (.int .i64 0))]⟩,
  ⟨none, some 45, .mv (.tmp 9)⟩,
  ⟨none, some 46, .call (.tmp 45) [(.const (.int .i64 1))]⟩,
  ⟨none, some 47, .fad 1 (.tmp 6)⟩,
  ⟨none, none, .store 1 (.tmp 47) (.tmp 44)⟩,
  ⟨none, some 48, .fad 4 (.tmp 6)⟩,
  ⟨none, none, .store 1 (.tmp 48) (.tmp 46)⟩])
 (.seq (.region [⟨none, some 49, .fad 0 (.tmp 6)⟩,
  ⟨none, some 50, .load1 (.tmp 49)⟩,
  ⟨none, some 51, .bin .eql (.tmp 50) (.const (.int .i64 4))⟩])
 (.cond (.tmp 51) (.region [⟨none, some 52, .mv (.tmp 8)⟩,
  ⟨none, some 53, .call (.tmp 52) [(.const (.int .i64 1))]⟩,
  ⟨none, some 54, .mv (.tmp 9)⟩,
  ⟨none, some 55, .call (.tmp 54) [(.const (.int .i64 2))]⟩,
  ⟨none, some 56, .fad 2 (.tmp 6)⟩,
  ⟨none, none, .store 1 (.tmp 56) (.tmp 53)⟩,
  ⟨none, some 57, .fad 4 (.tmp 6)⟩,
  ⟨none, none, .store 1 (.tmp 57) (.tmp 55)⟩]) .skip))) (.seq (.region [⟨none, some 59, .bin .eql (.tmp 32) (.const (.int .i64 6))⟩,
  ⟨none, some 58, .mv (.tmp 59)⟩])
 (.cond (.tmp 58) (.region [⟨none, some 60, .mv (.tmp 8)⟩,
  ⟨none, some 61, .call (.tmp 60) [(.const (.int .i64 0))]⟩,
  ⟨none, some 62, .mv (.tmp 8)⟩,
  ⟨none, some 63, .call (.tmp 62) [(.const (.int .i64 1))]⟩,
  ⟨none, some 64, .mv (.tmp 9)⟩,
  ⟨none, some 65, .call (.tmp 64) [(.const (.int .i64 2))]⟩,
  ⟨none, some 66, .fad 1 (.tmp 6)⟩,
  ⟨none, none, .store 1 (.tmp 66) (.tmp 61)⟩,
  ⟨none, some 67, .fad 2 (.tmp 6)⟩,
  ⟨none, none, .store 1 (.tmp 67) (.tmp 63)⟩,
  ⟨none, some 68, .fad 4 (.tmp 6)⟩,
  ⟨none, none, .store 1 (.tmp 68) (.tmp 65)⟩]) (.seq (.region [⟨none, some 70, .bin .eql (.tmp 32) (.const (.int .i64 3))⟩,
  ⟨none, some 69, .mv (.tmp 70)⟩])
 (.cond (.tmp 69) (.region [⟨none, some 71, .mv (.tmp 8)⟩,
  ⟨none, some 72, .call (.tmp 71) [(.const (.int .i64 0))]⟩,
  ⟨none, some 73, .mv (.tmp 8)⟩,
  ⟨none, some 74, .call (.tmp 73) [(.const (.int .i64 1))]⟩,
  ⟨none, some 75, .mv (.tmp 9)⟩,
  ⟨none, some 76, .call (.tmp 75) [(.const (.int .i64 2))]⟩,
  ⟨none, some 77, .fad 2 (.tmp 6)⟩,
  ⟨none, none, .store 1 (.tmp 77) (.tmp 72)⟩,
  ⟨none, some 78, .fad 3 (.tmp 6)⟩,
  ⟨none, none, .store 1 (.tmp 78) (.tmp 74)⟩,
  ⟨none, some 79, .fad 4 (.tmp 6)⟩,
  ⟨none, none, .store 1 (.tmp 79) (.tmp 76)⟩]) (.seq (.region [⟨none, some 81, .bin .eql (.tmp 32) (.const (.int .i64 4))⟩,
  ⟨none, some 80, .mv (.tmp 81)⟩])
 (.cond (.tmp 80) (.region [⟨none, some 82, .mv (.tmp 8)⟩,
  ⟨none, some 83, .call (.tmp 82) [(.const (.int .i64 0))]⟩,
  ⟨none, some 84, .mv (.tmp 9)⟩,
  ⟨none, some 85, .call (.tmp 84) [(.const (.int .i64 1))]⟩,
  ⟨none, some 86, .mv (.tmp 8)⟩,
  ⟨none, some 87, .call (.tmp 86) [(.const (.int .i64 2))]⟩,
  ⟨none, some 88, .fad 1 (.tmp 6)⟩,
  ⟨none, none, .store 1 (.tmp 88) (.tmp 83)⟩,
  ⟨none, some 89, .fad 4 (.tmp 6)⟩,
  ⟨none, none, .store 1 (.tmp 89) (.tmp 85)⟩,
  ⟨none, some 90, .fad 2 (.tmp 6)⟩,
  ⟨none, none, .store 1 (.tmp 90) (.tmp 87)⟩]) (.seq (.region [⟨none, some 92, .bin .eql (.tmp 32) (.const (.int .i64 5))⟩,
  ⟨none, some 91, .mv (.tmp 92)⟩])
 (.cond (.tmp 91) (.region [⟨none, some 93, .mv (.tmp 8)⟩,
  ⟨none, some 94, .call (.tmp 93) [(.const (.int .i64 0))]⟩,
  ⟨none, some 95, .mv (.tmp 9)⟩,
  ⟨none, some 96, .call (.tmp 95) [(.const (.int .i64 1))]⟩,
  ⟨none, some 97, .mv (.tmp 8)⟩,
  ⟨none, some 98, .call (.tmp 97) [(.const (.int .i64 2))]⟩,
  ⟨none, some 99, .fad 3 (.tmp 6)⟩,
  ⟨none, none, .store 1 (.tmp 99) (.tmp 94)⟩,
  ⟨none, some 100, .fad 4 (.tmp 6)⟩,
  ⟨none, none, .store 1 (.tmp 100) (.tmp 96)⟩,
  ⟨none, some 101, .fad 2 (.tmp 6)⟩,
  ⟨none, none, .store 1 (.tmp 101) (.tmp 98)⟩]) (.seq (.region [⟨none, some 103, .bin .eql (.tmp 32) (.const (.int .i64 7))⟩,
  ⟨none, some 102, .mv (.tmp 103)⟩])
 (.cond (.tmp 102) (.region [⟨none, some 104, .mv (.tmp 8)⟩,
  ⟨none, some 105, .call (.tmp 104) [(.const (.int .i64 0))]⟩,
  ⟨none, some 106, .mv (.tmp 8)⟩,
  ⟨none, some 107, .call (.tmp 106) [(.const (.int .i64 1))]⟩,
  ⟨none, some 108, .mv (.tmp 8)⟩,
  ⟨none, some 109, .call (.tmp 108) [(.const (.int .i64 2))]⟩,
  ⟨none, some 110, .fad 1 (.tmp 6)⟩,
  ⟨none, none, .store 1 (.tmp 110) (.tmp 105)⟩,
  ⟨none, some 111, .fad 2 (.tmp 6)⟩,
  ⟨none, none, .store 1 (.tmp 111) (.tmp 107)⟩,
  ⟨none, some 112, .fad 3 (.tmp 6)⟩,
  ⟨none, none, .store 1 (.tmp 112) (.tmp 109)⟩]) (.seq (.region [⟨none, some 114, .bin .eql (.tmp 32) (.const (.int .i64 8))⟩,
  ⟨none, some 113, .mv (.tmp 114)⟩])
 (.cond (.tmp 113) (.seq (.region [⟨none, some 115, .fad 0 (.tmp 6)⟩,
  ⟨none, some 116, .load1 (.tmp 115)⟩,
  ⟨none, some 117, .bin .eql (.tmp 116) (.const (.int .i64 50))⟩])
 (.cond (.tmp 117) (.region [⟨none, some 118, .load1 (.tmp 7)⟩,
  ⟨none, some 119, .iadS 1 (.tmp 118) (.const (.int .i64 0))⟩,
  ⟨none, some 120, .load1 (.tmp 119)⟩,
  ⟨none, some 121, .call (.func 46) [(.tmp 120)]⟩,
  ⟨none, some 122, .load1 (.tmp 7)⟩,
  ⟨none, some 123, .iadS 1 (.tmp 122) (.const (.int .i64 1))⟩,
  ⟨none, some 124, .load1 (.tmp 123)⟩,
  ⟨none, some 125, .call (.func 46) [(.tmp 124)]⟩,
  ⟨none, some 126, .fad 7 (.tmp 6)⟩,
  ⟨none, none, .store 1 (.tmp 126) (.tmp 121)⟩,
  ⟨none, some 127, .fad 8 (.tmp 6)⟩,
  ⟨none, none, .store 1 (.tmp 127) (.tmp 125)⟩]) .skip)) (.seq (.region [⟨none, some 129, .bin .eql (.tmp 32) (.const (.int .i64 10))⟩,
  ⟨none, some 128, .mv (.tmp 129)⟩])
 (.cond (.tmp 128) (.region [⟨none, some 130, .mv (.tmp 8)⟩,
  ⟨none, some 131, .call (.tmp 130) [(.const (.int .i64 0))]⟩,
  ⟨none, some 132, .mv (.tmp 8)⟩,
  ⟨none, some 133, .call (.tmp 132) [(.const (.int .i64 2))]⟩,
  ⟨none, some 134, .fad 1 (.tmp 6)⟩,
  ⟨none, none, .store 1 (.tmp 134) (.tmp 131)⟩,
  ⟨none, some 135, .fad 2 (.tmp 6)⟩,
  ⟨none, none, .store 1 (.tmp 135) (.tmp 133)⟩]) (.seq (.seq (.region [⟨none, some 137, .bin .eql (.tmp 32) (.const (.int .i64 11))⟩,
  ⟨none, some 136, .mv (.tmp 137)⟩])
 (.cond (.tmp 136) .skip (.region [⟨none, some 138, .bin .eql (.tmp 32) (.const (.int .i64 12))⟩,
  ⟨none, some 136, .mv (.tmp 138)⟩])))
 (.cond (.tmp 136) (.region [⟨none, some 139, .mv (.tmp 8)⟩,
  ⟨none, some 140, .call (.tmp 139) [(.const (.int .i64 0))]⟩,
  ⟨none, some 141, .mv (.tmp 8)⟩,
  ⟨none, some 142, .call (.tmp 141) [(.const (.int .i64 1))]⟩,
  ⟨none, some 143, .mv (.tmp 8)⟩,
  ⟨none, some 144, .call (.tmp 143) [(.const (.int .i64 3))]⟩,
  ⟨none, some 145, .fad 1 (.tmp 6)⟩,
  ⟨none, none, .store 1 (.tmp 145) (.tmp 140)⟩,
  ⟨none, some 146, .fad 3 (.tmp 6)⟩,
  ⟨none, none, .store 1 (.tmp 146) (.tmp 142)⟩,
  ⟨none, some 147, .fad 2 (.tmp 6)⟩,
  ⟨none, none, .store 1 (.tmp 147) (.tmp 144)⟩]) .skip))))))))))))))))))))))
 (.seq (.region [⟨none, some 148, .loadN 9 (.tmp 6)⟩,
  ⟨none, none, .store 9 (.tmp 2) (.tmp 148)⟩])
 .ret))))))))),
 [.cellN 2 9]⟩
theorem c_show_guess : compF P0 pf Go.Proofs.Tryz.f25 = some L_show_guess := by kernel_rfl
/-- undertow/undertowref09.words -/
abbrev n_ref09_words : Nat := 26
def L_ref09_words : LFn := ⟨67, (.seq (.region [⟨none, some 2, .mv (.const (.slice none 0 0))⟩])
 (.seq (.region [⟨none, some 3, .mv (.const (.slice none 0 0))⟩])
 (.seq (.region [⟨none, some 4, .mv (.const (.string ⟨#[]⟩))⟩])
 (.seq (.seq (.region [⟨none, some 5, .mv (.const (.int .i64 0))⟩])
 (.block 0 (.loop (.seq (.seq (.region [⟨none, some 6, .mv (.tmp 5)⟩,
  ⟨none, some 7, .mv (.tmp 0)⟩,
  ⟨none, some 8, .lenT (.tmp 7)⟩,
  ⟨none, some 9, .bin .leq (.tmp 6) (.tmp 8)⟩])
 (.cond (.tmp 9) .skip (.exit 0)))
 (.seq (.block 1 (.seq (.seq (.region [⟨none, some 12, .mv (.tmp 5)⟩,
  ⟨none, some 13, .mv (.tmp 0)⟩,
  ⟨none, some 14, .lenT (.tmp 13)⟩,
  ⟨none, some 15, .bin .lss (.tmp 12) (.tmp 14)⟩,
  ⟨none, some 16, .mv (.tmp 15)⟩,
  ⟨some (16, true), some 17, .mv (.tmp 0)⟩,
  ⟨some (16, true), some 18, .mv (.tmp 5)⟩,
  ⟨some (16, true), some 19, .ixS (.tmp 17) (.tmp 18)⟩,
  ⟨some (16, true), some 20, .bin .geq (.tmp 19) (.const (.int .u8 97))⟩,
  ⟨some (16, true), some 21, .mv (.tmp 20)⟩,
  ⟨some (21, true), some 22, .mv (.tmp 0)⟩,
  ⟨some (21, true), some 23, .mv (.tmp 5)⟩,
  ⟨some (21, true), some 24, .ixS (.tmp 22) (.tmp 23)⟩,
  ⟨some (21, true), some 25, .bin .leq (.tmp 24) (.const (.int .u8 122))⟩,
  ⟨some (16, true), some 26, .pick (.tmp 21) (.tmp 25) (.const (.bool false))⟩,
  ⟨some (16, true), some 27, .mv (.tmp 26)⟩,
  ⟨some (27, false), some 28, .mv (.tmp 0)⟩,
  ⟨some (27, false), some 29, .mv (.tmp 5)⟩,
  ⟨some (27, false), some 30, .ixS (.tmp 28) (.tmp 29)⟩,
  ⟨some (27, false), some 31, .bin .geq (.tmp 30) (.const (.int .u8 48))⟩,
  ⟨some (27, false), some 32, .mv (.tmp 31)⟩,
  ⟨some (32, true), some 33, .mv (.tmp 0)⟩,
  ⟨some (32, true), some 34, .mv (.tmp 5)⟩,
  ⟨some (32, true), some 35, .ixS (.tmp 33) (.tmp 34)⟩,
  ⟨some (32, true), some 36, .bin .leq (.tmp 35) (.const (.int .u8 57))⟩,
  ⟨some (27, false), some 37, .pick (.tmp 32) (.tmp 36) (.const (.bool false))⟩,
  ⟨some (16, true), some 38, .pick (.tmp 27) (.const (.bool true)) (.tmp 37)⟩,
  ⟨some (16, true), some 39, .mv (.tmp 38)⟩,
  ⟨some (39, false), some 40, .mv (.tmp 0)⟩,
  ⟨some (39, false), some 41, .mv (.tmp 5)⟩,
  ⟨some (39, false), some 42, .ixS (.tmp 40) (.tmp 41)⟩,
  ⟨some (39, false), some 43, .bin .eql (.tmp 42) (.const (.int .u8 46))⟩,
  ⟨some (16, true), some 44, .pick (.tmp 39) (.const (.bool true)) (.tmp 43)⟩,
  ⟨some (16, true), some 45, .mv (.tmp 44)⟩,
  ⟨some (45, false), some 46, .mv (.tmp 0)⟩,
  ⟨some (45, false), some 47, .mv (.tmp 5)⟩,
  ⟨some (45, false), some 48, .ixS (.tmp 46) (.tmp 47)⟩,
  ⟨some (45, false), some 49, .bin .eql (.tmp 48) (.const (.int .u8 45))⟩,
  ⟨some (16, true), some 50, .pick (.tmp 45) (.const (.bool true)) (.tmp 49)⟩,
  ⟨none, some 51, .pick (.tmp 16) (.tmp 50) (.const (.bool false))⟩])
 (.cond (.tmp 51) (.seq (.region [⟨none, some 52, .mv (.tmp 4)⟩,
  ⟨none, some 53, .mv (.tmp 0)⟩,
  ⟨none, some 54, .mv (.tmp 5)⟩,
  ⟨none, some 55, .mv (.tmp 5)⟩,
  ⟨none, some 56, .bin .add (.tmp 55) (.const (.int .i64 1))⟩,
  ⟨none, some 57, .slcT (.tmp 53) (some (.tmp 54)) (some (.tmp 56))⟩,
  ⟨none, some 58, .bin .add (.tmp 52) (.tmp 57)⟩,
  ⟨none, some 4, .mv (.tmp 58)⟩])
 (.exit 1)) .skip))
 (.seq (.seq (.region [⟨none, some 59, .mv (.tmp 4)⟩,
  ⟨none, some 60, .lenT (.tmp 59)⟩,
  ⟨none, some 61, .bin .gtr (.tmp 60) (.const (.int .i64 0))⟩])
 (.cond (.tmp 61) (.region [⟨none, some 62, .mv (.tmp 3)⟩,
  ⟨none, some 63, .mv (.tmp 4)⟩,
  ⟨none, some 64, .rowM 1 (zeroRow [.string ⟨#[]⟩] 1) [(0, 1, (.tmp 63))]⟩,
  ⟨none, some 65, .app 1 16 (.tmp 62) (.tmp 64)⟩,
  ⟨none, some 3, .mv (.tmp 65)⟩]) .skip))
 (.region [⟨none, some 4, .mv (.const (.string ⟨#[]⟩))⟩]))))
 (.region [⟨none, some 10, .mv (.tmp 5)⟩,
  ⟨none, some 11, .bin .add (.tmp 10) (.const (.int .i64 1))⟩,
  ⟨none, some 5, .mv (.tmp 11)⟩]))))))
 (.seq (.region [⟨none, some 66, .mv (.tmp 3)⟩,
  ⟨none, some 2, .mv (.tmp 66)⟩])
 .ret))))),
 [.tmp 2]⟩
theorem c_ref09_words : compF P0 pf Go.Proofs.Tryz.f26 = some L_ref09_words := by kernel_rfl
/-- undertow/undertowref09.Register -/
abbrev n_ref09_Register : Nat := 27
def L_ref09_Register : LFn := ⟨36, (.seq (.region [⟨none, some 2, .mv (.const (.int .i64 0))⟩,
  ⟨none, some 3, .mv (.const (.bool false))⟩])
 (.seq (.seq (.region [⟨none, some 6, .mv (.tmp 0)⟩,
  ⟨none, some 7, .lenT (.tmp 6)⟩,
  ⟨none, some 8, .bin .lss (.tmp 7) (.const (.int .i64 2))⟩,
  ⟨none, some 9, .mv (.tmp 8)⟩,
  ⟨some (9, false), some 10, .mv (.tmp 0)⟩,
  ⟨some (9, false), some 11, .lenT (.tmp 10)⟩,
  ⟨some (9, false), some 12, .bin .gtr (.tmp 11) (.const (.int .i64 3))⟩,
  ⟨none, some 13, .pick (.tmp 9) (.const (.bool true)) (.tmp 12)⟩,
  ⟨none, some 14, .mv (.tmp 13)⟩,
  ⟨some (14, false), some 15, .mv (.tmp 0)⟩,
  ⟨some (14, false), some 16, .ixS (.tmp 15) (.const (.int .i64 0))⟩,
  ⟨some (14, false), some 17, .bin .neq (.tmp 16) (.const (.int .u8 120))⟩,
  ⟨none, some 18, .pick (.tmp 14) (.const (.bool true)) (.tmp 17)⟩])
 (.cond (.tmp 18) (.seq (.region [⟨none, some 2, .mv (.const (.int .i64 0))⟩,
  ⟨none, some 3, .mv (.const (.bool false))⟩])
 .ret) .skip))
 (.seq (.region [⟨none, some 20, .mv (.tmp 0)⟩,
  ⟨none, some 21, .slcT (.tmp 20) (some (.const (.int .i64 1))) none⟩,
  ⟨none, some 22, .call (.func 28) [(.tmp 21)]⟩,
  ⟨none, some 19, .mv (.tmp 22)⟩,
  ⟨none, some 23, .ext (.tmp 19) 0⟩,
  ⟨none, some 24, .ext (.tmp 19) 1⟩,
  ⟨none, some 4, .mv (.tmp 23)⟩,
  ⟨none, some 5, .mv (.tmp 24)⟩])
 (.seq (.seq (.region [⟨none, some 25, .mv (.tmp 5)⟩,
  ⟨none, some 26, .un .not (.tmp 25)⟩,
  ⟨none, some 27, .mv (.tmp 26)⟩,
  ⟨some (27, false), some 28, .mv (.tmp 4)⟩,
  ⟨some (27, false), some 29, .bin .lss (.tmp 28) (.const (.int .i64 0))⟩,
  ⟨none, some 30, .pick (.tmp 27) (.const (.bool true)) (.tmp 29)⟩,
  ⟨none, some 31, .mv (.tmp 30)⟩,
  ⟨some (31, false), some 32, .mv (.tmp 4)⟩,
  ⟨some (31, false), some 33, .bin .gtr (.tmp 32) (.const (.int .i64 31))⟩,
  ⟨none, some 34, .pick (.tmp 31) (.const (.bool true)) (.tmp 33)⟩])
 (.cond (.tmp 34) (.seq (.region [⟨none, some 2, .mv (.const (.int .i64 0))⟩,
  ⟨none, some 3, .mv (.const (.bool false))⟩])
 .ret) .skip))
 (.seq (.region [⟨none, some 35, .mv (.tmp 4)⟩,
  ⟨none, some 2, .mv (.tmp 35)⟩,
  ⟨none, some 3, .mv (.const (.bool true))⟩])
 .ret))))),
 [.tmp 2, .tmp 3]⟩
theorem c_ref09_Register : compF P0 pf Go.Proofs.Tryz.f27 = some L_ref09_Register := by kernel_rfl
/-- undertow/undertowref09.Number -/
abbrev n_ref09_Number : Nat := 28
def L_ref09_Number : LFn := ⟨80, (.seq (.region [⟨none, some 2, .mv (.const (.int .i64 0))⟩,
  ⟨none, some 3, .mv (.const (.bool false))⟩])
 (.seq (.region [⟨none, some 8, .mv (.tmp 0)⟩,
  ⟨none, some 4, .mv (.tmp 8)⟩])
 (.seq (.region [⟨none, some 5, .mv (.const (.bool false))⟩])
 (.seq (.seq (.region [⟨none, some 9, .mv (.tmp 4)⟩,
  ⟨none, some 10, .lenT (.tmp 9)⟩,
  ⟨none, some 11, .bin .gtr (.tmp 10) (.const (.int .i64 0))⟩,
  ⟨none, some 12, .mv (.tmp 11)⟩,
  ⟨some (12, true), some 13, .mv (.tmp 4)⟩,
  ⟨some (12, true), some 14, .ixS (.tmp 13) (.const (.int .i64 0))⟩,
  ⟨some (12, true), some 15, .bin .eql (.tmp 14) (.const (.int .u8 45))⟩,
  ⟨none, some 16, .pick (.tmp 12) (.tmp 15) (.const (.bool false))⟩])
 (.cond (.tmp 16) (.seq (.region [⟨none, some 5, .mv (.const (.bool true))⟩])
 (.region [⟨none, some 17, .mv (.tmp 4)⟩,
  ⟨none, some 18, .slcT (.tmp 17) (some (.const (.int .i64 1))) none⟩,
  ⟨none, some 4, .mv (.tmp 18)⟩])) .skip))
 (.seq (.seq (.region [⟨none, some 19, .mv (.tmp 4)⟩,
  ⟨none, some 20, .lenT (.tmp 19)⟩,
  ⟨none, some 21, .bin .eql (.tmp 20) (.const (.int .i64 0))⟩,
  ⟨none, some 22, .mv (.tmp 21)⟩,
  ⟨some (22, false), some 23, .mv (.tmp 4)⟩,
  ⟨some (22, false), some 24, .lenT (.tmp 23)⟩,
  ⟨some (22, false), some 25, .bin .gtr (.tmp 24) (.const (.int .i64 19))⟩,
  ⟨none, some 26, .pick (.tmp 22) (.const (.bool true)) (.tmp 25)⟩,
  ⟨none, some 27, .mv (.tmp 26)⟩,
  ⟨some (27, false), some 28, .mv (.tmp 4)⟩,
  ⟨some (27, false), some 29, .ixS (.tmp 28) (.const (.int .i64 0))⟩,
  ⟨some (27, false), some 30, .bin .eql (.tmp 29) (.const (.int .u8 48))⟩,
  ⟨some (27, false), some 31, .mv (.tmp 30)⟩,
  ⟨some (31, true), some 32, .mv (.tmp 4)⟩,
  ⟨some (31, true), some 33, .lenT (.tmp 32)⟩,
  ⟨some (31, true), some 34, .bin .gtr (.tmp 33) (.const (.int .i64 1))⟩,
  ⟨some (31, true), some 35, .mv (.tmp 34)⟩,
  ⟨some (35, false), some 36, .mv (.tmp 5)⟩,
  ⟨some (31, true), some 37, .pick (.tmp 35) (.const (.bool true)) (.tmp 36)⟩,
  ⟨some (27, false), some 38, .pick (.tmp 31) (.tmp 37) (.const (.bool false))⟩,
  ⟨none, some 39, .pick (.tmp 27) (.const (.bool true)) (.tmp 38)⟩])
 (.cond (.tmp 39) (.seq (.region [⟨none, some 2, .mv (.const (.int .i64 0))⟩,
  ⟨none, some 3, .mv (.const (.bool false))⟩])
 .ret) .skip))
 (.seq (.region [⟨none, some 6, .mv (.const (.int .u64 0))⟩])
 (.seq (.seq (.region [⟨none, some 7, .mv (.const (.int .i64 0))⟩])
 (.block 0 (.loop (.seq (.seq (.region [⟨none, some 40, .mv (.tmp 7)⟩,
  ⟨none, some 41, .mv (.tmp 4)⟩,
  ⟨none, some 42, .lenT (.tmp 41)⟩,
  ⟨none, some 43, .bin .lss (.tmp 40) (.tmp 42)⟩])
 (.cond (.tmp 43) .skip (.exit 0)))
 (.seq (.block 1 (.seq (.seq (.region [⟨none, some 46, .mv (.tmp 4)⟩,
  ⟨none, some 47, .mv (.tmp 7)⟩,
  ⟨none, some 48, .ixS (.tmp 46) (.tmp 47)⟩,
  ⟨none, some 49, .bin .lss (.tmp 48) (.const (.int .u8 48))⟩,
  ⟨none, some 50, .mv (.tmp 49)⟩,
  ⟨some (50, false), some 51, .mv (.tmp 4)⟩,
  ⟨some (50, false), some 52, .mv (.tmp 7)⟩,
  ⟨some (50, false), some 53, .ixS (.tmp 51) (.tmp 52)⟩,
  ⟨some (50, false), some 54, .bin .gtr (.tmp 53) (.const (.int .u8 57))⟩,
  ⟨none, some 55, .pick (.tmp 50) (.const (.bool true)) (.tmp 54)⟩])
 (.cond (.tmp 55) (.seq (.region [⟨none, some 2, .mv (.const (.int .i64 0))⟩,
  ⟨none, some 3, .mv (.const (.bool false))⟩])
 .ret) .skip))
 (.region [⟨none, some 56, .mv (.tmp 6)⟩,
  ⟨none, some 57, .bin .mul (.const (.int .u64 10)) (.tmp 56)⟩,
  ⟨none, some 58, .mv (.tmp 4)⟩,
  ⟨none, some 59, .mv (.tmp 7)⟩,
  ⟨none, some 60, .ixS (.tmp 58) (.tmp 59)⟩,
  ⟨none, some 61, .bin .sub (.tmp 60) (.const (.int .u8 48))⟩,
  ⟨none, some 62, .convI .u64 (.tmp 61)⟩,
  ⟨none, some 63, .bin .add (.tmp 57) (.tmp 62)⟩,
  ⟨none, some 6, .mv (.tmp 63)⟩])))
 (.region [⟨none, some 44, .mv (.tmp 7)⟩,
  ⟨none, some 45, .bin .add (.tmp 44) (.const (.int .i64 1))⟩,
  ⟨none, some 7, .mv (.tmp 45)⟩]))))))
 (.seq (.seq (.region [⟨none, some 64, .mv (.tmp 6)⟩,
  ⟨none, some 65, .bin .gtr (.tmp 64) (.const (.int .u64 9223372036854775808))⟩,
  ⟨none, some 66, .mv (.tmp 65)⟩,
  ⟨some (66, false), some 67, .mv (.tmp 6)⟩,
  ⟨some (66, false), some 68, .bin .eql (.tmp 67) (.const (.int .u64 9223372036854775808))⟩,
  ⟨some (66, false), some 69, .mv (.tmp 68)⟩,
  ⟨some (69, true), some 70, .mv (.tmp 5)⟩,
  ⟨some (69, true), some 71, .un .not (.tmp 70)⟩,
  ⟨some (66, false), some 72, .pick (.tmp 69) (.tmp 71) (.const (.bool false))⟩,
  ⟨none, some 73, .pick (.tmp 66) (.const (.bool true)) (.tmp 72)⟩])
 (.cond (.tmp 73) (.seq (.region [⟨none, some 2, .mv (.const (.int .i64 0))⟩,
  ⟨none, some 3, .mv (.const (.bool false))⟩])
 .ret) .skip))
 (.seq (.seq (.region [⟨none, some 74, .mv (.tmp 5)⟩])
 (.cond (.tmp 74) (.seq (.region [⟨none, some 75, .mv (.tmp 6)⟩,
  ⟨none, some 76, .un .neg (.tmp 75)⟩,
  ⟨none, some 77, .convI .i64 (.tmp 76)⟩,
  ⟨none, some 2, .mv (.tmp 77)⟩,
  ⟨none, some 3, .mv (.const (.bool true))⟩])
 .ret) .skip))
 (.seq (.region [⟨none, some 78, .mv (.tmp 6)⟩,
  ⟨none, some 79, .convI .i64 (.tmp 78)⟩,
  ⟨none, some 2, .mv (.tmp 79)⟩,
  ⟨none, some 3, .mv (.const (.bool true))⟩])
 .ret)))))))))),
 [.tmp 2, .tmp 3]⟩
theorem c_ref09_Number : compF P0 pf Go.Proofs.Tryz.f28 = some L_ref09_Number := by kernel_rfl
/-- undertow/undertowref09.bits -/
abbrev n_ref09_bits : Nat := 29
def L_ref09_bits : LFn := ⟨31, (.seq (.region [⟨none, some 2, .mv (.const (.int .i64 0))⟩])
 (.seq (.region [⟨none, some 3, .mv (.const (.int .i64 0))⟩])
 (.seq (.seq (.region [⟨none, some 4, .mv (.const (.int .i64 0))⟩])
 (.block 0 (.loop (.seq (.seq (.region [⟨none, some 5, .mv (.tmp 4)⟩,
  ⟨none, some 6, .mv (.tmp 0)⟩,
  ⟨none, some 7, .lenT (.tmp 6)⟩,
  ⟨none, some 8, .bin .lss (.tmp 5) (.tmp 7)⟩])
 (.cond (.tmp 8) .skip (.exit 0)))
 (.seq (.block 1 (.seq (.region [⟨none, some 11, .mv (.tmp 0)⟩,
  ⟨none, some 12, .mv (.tmp 4)⟩,
  ⟨none, some 13, .ixS (.tmp 11) (.tmp 12)⟩])
 (.block 2 (.seq (.region [⟨none, some 15, .bin .eql (.tmp 13) (.const (.int .u8 105))⟩,
  ⟨none, some 14, .mv (.tmp 15)⟩])
 (.cond (.tmp 14) (.region [⟨none, some 16, .mv (.tmp 3)⟩,
  ⟨none, some 17, .bin .or (.tmp 16) (.const (.int .i64 8))⟩,
  ⟨none, some 3, .mv (.tmp 17)⟩]) (.seq (.region [⟨none, some 19, .bin .eql (.tmp 13) (.const (.int .u8 111))⟩,
  ⟨none, some 18, .mv (.tmp 19)⟩])
 (.cond (.tmp 18) (.region [⟨none, some 20, .mv (.tmp 3)⟩,
  ⟨none, some 21, .bin .or (.tmp 20) (.const (.int .i64 4))⟩,
  ⟨none, some 3, .mv (.tmp 21)⟩]) (.seq (.region [⟨none, some 23, .bin .eql (.tmp 13) (.const (.int .u8 114))⟩,
  ⟨none, some 22, .mv (.tmp 23)⟩])
 (.cond (.tmp 22) (.region [⟨none, some 24, .mv (.tmp 3)⟩,
  ⟨none, some 25, .bin .or (.tmp 24) (.const (.int .i64 2))⟩,
  ⟨none, some 3, .mv (.tmp 25)⟩]) (.seq (.region [⟨none, some 27, .bin .eql (.tmp 13) (.const (.int .u8 119))⟩,
  ⟨none, some 26, .mv (.tmp 27)⟩])
 (.cond (.tmp 26) (.region [⟨none, some 28, .mv (.tmp 3)⟩,
  ⟨none, some 29, .bin .or (.tmp 28) (.const (.int .i64 1))⟩,
  ⟨none, some 3, .mv (.tmp 29)⟩]) .skip)))))))))))
 (.region [⟨none, some 9, .mv (.tmp 4)⟩,
  ⟨none, some 10, .bin .add (.tmp 9) (.const (.int .i64 1))⟩,
  ⟨none, some 4, .mv (.tmp 10)⟩]))))))
 (.seq (.region [⟨none, some 30, .mv (.tmp 3)⟩,
  ⟨none, some 2, .mv (.tmp 30)⟩])
 .ret)))),
 [.tmp 2]⟩
theorem c_ref09_bits : compF P0 pf Go.Proofs.Tryz.f29 = some L_ref09_bits := by kernel_rfl
/-- strings.CutPrefix -/
abbrev n_strings_CutPrefix : Nat := 32
def L_strings_CutPrefix : LFn := ⟨11, (.seq (.region [⟨none, some 4, .mv (.const (.string ⟨#[]⟩))⟩,
  ⟨none, some 5, .mv (.const (.bool false))⟩])
 (.seq (.region [⟨none, some 6, .mv (.tmp 0)⟩,
  ⟨none, some 7, .mv (.tmp 1)⟩,
  ⟨none, some 8, .call (.func 50) [(.tmp 6), (.tmp 7)]⟩,
  ⟨none, some 9, .ext (.tmp 8) 0⟩,
  ⟨none, some 10, .ext (.tmp 8) 1⟩,
  ⟨none, some 4, .mv (.tmp 9)⟩,
  ⟨none, some 5, .mv (.tmp 10)⟩])
 .ret)),
 [.tmp 4, .tmp 5]⟩
theorem c_strings_CutPrefix : compF P0 pf Go.Proofs.Tryz.f32 = some L_strings_CutPrefix := by kernel_rfl
/-- undertow/encode.immediate -/
abbrev n_encode_immediate : Nat := 33
def L_encode_immediate : LFn := ⟨39, (.seq (.region [⟨none, some 1, .box (.tmp 0)⟩,
  ⟨none, some 2, .mv (.const (.int .u32 0))⟩,
  ⟨none, some 3, .mv (.const (.bool false))⟩])
 (.seq (.seq (.region [⟨none, some 6, .fad 0 (.tmp 1)⟩,
  ⟨none, some 7, .load1 (.tmp 6)⟩,
  ⟨none, some 8, .call (.func 51) [(.tmp 7)]⟩,
  ⟨none, some 4, .mv (.tmp 8)⟩])
 (.seq (.region [⟨none, some 9, .mv (.tmp 4)⟩,
  ⟨none, some 10, .bin .gtr (.tmp 9) (.const (.int .i64 0))⟩])
 (.cond (.tmp 10) (.seq (.region [⟨none, some 11, .fad 4 (.tmp 1)⟩,
  ⟨none, some 12, .load1 (.tmp 11)⟩,
  ⟨none, some 13, .convI .u32 (.tmp 12)⟩,
  ⟨none, some 14, .bin .shl (.tmp 13) (.const (.int .u64 20))⟩,
  ⟨none, some 15, .fad 4 (.tmp 1)⟩,
  ⟨none, some 16, .load1 (.tmp 15)⟩,
  ⟨none, some 17, .bin .geq (.tmp 16) (.const (.int .i64 0))⟩,
  ⟨none, some 18, .mv (.tmp 17)⟩,
  ⟨some (18, true), some 19, .fad 4 (.tmp 1)⟩,
  ⟨some (18, true), some 20, .load1 (.tmp 19)⟩,
  ⟨some (18, true), some 21, .mv (.tmp 4)⟩,
  ⟨some (18, true), some 22, .bin .shl (.const (.int .i64 1)) (.tmp 21)⟩,
  ⟨some (18, true), some 23, .bin .lss (.tmp 20) (.tmp 22)⟩,
  ⟨none, some 24, .pick (.tmp 18) (.tmp 23) (.const (.bool false))⟩,
  ⟨none, some 2, .mv (.tmp 14)⟩,
  ⟨none, some 3, .mv (.tmp 24)⟩])
 .ret) .skip)))
 (.seq (.seq (.region [⟨none, some 25, .fad 0 (.tmp 1)⟩,
  ⟨none, some 26, .load1 (.tmp 25)⟩,
  ⟨none, some 27, .call (.func 52) [(.tmp 26)]⟩,
  ⟨none, some 5, .mv (.tmp 27)⟩])
 (.seq (.region [⟨none, some 28, .mv (.tmp 5)⟩,
  ⟨none, some 29, .bin .gtr (.tmp 28) (.const (.int .i64 0))⟩])
 (.cond (.tmp 29) (.seq (.region [⟨none, some 30, .mv (.tmp 5)⟩,
  ⟨none, some 31, .fad 4 (.tmp 1)⟩,
  ⟨none, some 32, .load1 (.tmp 31)⟩,
  ⟨none, some 33, .call (.func 53) [(.tmp 30), (.tmp 32)]⟩,
  ⟨none, some 34, .ext (.tmp 33) 0⟩,
  ⟨none, some 35, .ext (.tmp 33) 1⟩,
  ⟨none, some 2, .mv (.tmp 34)⟩,
  ⟨none, some 3, .mv (.tmp 35)⟩])
 .ret) .skip)))
 (.seq (.region [⟨none, some 36, .fad 4 (.tmp 1)⟩,
  ⟨none, some 37, .load1 (.tmp 36)⟩,
  ⟨none, some 38, .bin .eql (.tmp 37) (.const (.int .i64 0))⟩,
  ⟨none, some 2, .mv (.const (.int .u32 0))⟩,
  ⟨none, some 3, .mv (.tmp 38)⟩])
 .ret)))),
 [.tmp 2, .tmp 3]⟩
theorem c_encode_immediate : compF P0 pf Go.Proofs.Tryz.f33 = some L_encode_immediate := by kernel_rfl
/-- undertow/ops.Sort -/
abbrev n_ops_Sort : Nat := 34
def L_ops_Sort : LFn := ⟨43, (.seq (.region [⟨none, some 2, .mv (.const (.int .i64 0))⟩])
 (.seq (.block 0 (.seq (.region [⟨none, some 4, .mv (.tmp 0)⟩,
  ⟨none, some 5, .bin .lss (.tmp 4) (.const (.int .i64 1))⟩,
  ⟨none, some 6, .mv (.tmp 5)⟩,
  ⟨some (6, false), some 7, .mv (.tmp 0)⟩,
  ⟨some (6, false), some 8, .bin .gtr (.tmp 7) (.const (.int .i64 75))⟩,
  ⟨none, some 9, .pick (.tmp 6) (.const (.bool true)) (.tmp 8)⟩,
  ⟨none, some 3, .mv (.tmp 9)⟩])
 (.cond (.tmp 3) (.seq (.region [⟨none, some 2, .mv (.const (.int .i64 0))⟩])
 .ret) (.seq (.region [⟨none, some 11, .mv (.tmp 0)⟩,
  ⟨none, some 12, .bin .leq (.tmp 11) (.const (.int .i64 2))⟩,
  ⟨none, some 10, .mv (.tmp 12)⟩])
 (.cond (.tmp 10) (.seq (.region [⟨none, some 2, .mv (.const (.int .i64 1))⟩])
 .ret) (.seq (.region [⟨none, some 14, .mv (.tmp 0)⟩,
  ⟨none, some 15, .bin .leq (.tmp 14) (.const (.int .i64 4))⟩,
  ⟨none, some 13, .mv (.tmp 15)⟩])
 (.cond (.tmp 13) (.seq (.region [⟨none, some 2, .mv (.const (.int .i64 2))⟩])
 .ret) (.seq (.region [⟨none, some 17, .mv (.tmp 0)⟩,
  ⟨none, some 18, .bin .leq (.tmp 17) (.const (.int .i64 10))⟩,
  ⟨none, some 16, .mv (.tmp 18)⟩])
 (.cond (.tmp 16) (.seq (.region [⟨none, some 2, .mv (.const (.int .i64 3))⟩])
 .ret) (.seq (.region [⟨none, some 20, .mv (.tmp 0)⟩,
  ⟨none, some 21, .bin .leq (.tmp 20) (.const (.int .i64 17))⟩,
  ⟨none, some 19, .mv (.tmp 21)⟩])
 (.cond (.tmp 19) (.seq (.region [⟨none, some 2, .mv (.const (.int .i64 4))⟩])
 .ret) (.seq (.region [⟨none, some 23, .mv (.tmp 0)⟩,
  ⟨none, some 24, .bin .leq (.tmp 23) (.const (.int .i64 21))⟩,
  ⟨none, some 22, .mv (.tmp 24)⟩])
 (.cond (.tmp 22) (.seq (.region [⟨none, some 2, .mv (.const (.int .i64 5))⟩])
 .ret) (.seq (.region [⟨none, some 26, .mv (.tmp 0)⟩,
  ⟨none, some 27, .bin .leq (.tmp 26) (.const (.int .i64 34))⟩,
  ⟨none, some 25, .mv (.tmp 27)⟩])
 (.cond (.tmp 25) (.seq (.region [⟨none, some 2, .mv (.const (.int .i64 6))⟩])
 .ret) (.seq (.region [⟨none, some 29, .mv (.tmp 0)⟩,
  ⟨none, some 30, .bin .leq (.tmp 29) (.const (.int .i64 49))⟩,
  ⟨none, some 28, .mv (.tmp 30)⟩])
 (.cond (.tmp 28) (.seq (.region [⟨none, some 2, .mv (.const (.int .i64 7))⟩])
 .ret) (.seq (.region [⟨none, some 32, .mv (.tmp 0)⟩,
  ⟨none, some 33, .bin .leq (.tmp 32) (.const (.int .i64 51))⟩,
  ⟨none, some 31, .mv (.tmp 33)⟩])
 (.cond (.tmp 31) (.seq (.region [⟨none, some 2, .mv (.const (.int .i64 8))⟩])
 .ret) (.seq (.region [⟨none, some 35, .mv (.tmp 0)⟩,
  ⟨none, some 36, .bin .leq (.tmp 35) (.const (.int .i64 53))⟩,
  ⟨none, some 34, .mv (.tmp 36)⟩])
 (.cond (.tmp 34) (.seq (.region [⟨none, some 2, .mv (.const (.int .i64 9))⟩])
 .ret) (.seq (.region [⟨none, some 38, .mv (.tmp 0)⟩,
  ⟨none, some 39, .bin .leq (.tmp 38) (.const (.int .i64 55))⟩,
  ⟨none, some 37, .mv (.tmp 39)⟩])
 (.cond (.tmp 37) (.seq (.region [⟨none, some 2, .mv (.const (.int .i64 10))⟩])
 .ret) (.seq (.region [⟨none, some 41, .mv (.tmp 0)⟩,
  ⟨none, some 42, .bin .leq (.tmp 41) (.const (.int .i64 57))⟩,
  ⟨none, some 40, .mv (.tmp 42)⟩])
 (.cond (.tmp 40) (.seq (.region [⟨none, some 2, .mv (.const (.int .i64 11))⟩])
 .ret) .skip)))))))))))))))))))))))))
 (.seq (.region [⟨none, some 2, .mv (.const (.int .i64 12))⟩])
 .ret))),
 [.tmp 2]⟩
theorem c_ops_Sort : compF P0 pf Go.Proofs.Tryz.f34 = some L_ops_Sort := by kernel_rfl
/-- undertow/decode.Clean -/
abbrev n_decode_Clean : Nat := 35
def L_decode_Clean : LFn := ⟨34, (.seq (.region [⟨none, some 1, .box (.tmp 0)⟩,
  ⟨none, some 2, .alloc [.int .i64 0, .int .i64 0, .int .i64 0, .int .i64 0, .int .i64 0, .bool false, .bool false, .int .i64 0, .int .i64 0]⟩])
 (.seq (.region [⟨none, some 7, .fad 0 (.tmp 1)⟩,
  ⟨none, some 8, .load1 (.tmp 7)⟩,
  ⟨none, some 9, .build [.int .i64 0, .int .i64 0, .int .i64 0, .int .i64 0, .int .i64 0, .bool false, .bool false, .int .i64 0, .int .i64 0] [(0, 1, (.tmp 8)), (1, 1, (.const (.int .i64 1))), (2, 1, (.const (.int .i64 2))), (3, 1, (.const (.int .i64 3)))]⟩,
  ⟨none, some 3, .alloc [.int .i64 0, .int .i64 0, .int .i64 0, .int .i64 0, .int .i64 0, .bool false, .bool false, .int .i64 0, .int .i64 0]⟩,
  ⟨none, none, .store 9 (.tmp 3) (.tmp 9)⟩])
 (.seq (.seq (.region [⟨none, some 10, .loadN 9 (.tmp 3)⟩,
  ⟨none, some 11, .call (.func 54) [(.tmp 10)]⟩,
  ⟨none, some 12, .bin .eql (.tmp 11) (.const (.int .i64 0))⟩])
 (.cond (.tmp 12) (.region [⟨none, some 13, .fad 1 (.tmp 1)⟩,
  ⟨none, none, .store 1 (.tmp 13) (.const (.int .i64 0))⟩]) .skip))
 (.seq (.region [⟨none, some 14, .build [.bool false, .bool false, .bool false, .bool false] []⟩,
  ⟨none, some 4, .alloc [.bool false, .bool false, .bool false, .bool false]⟩,
  ⟨none, none, .store 4 (.tmp 4) (.tmp 14)⟩])
 (.seq (.seq (.region [⟨none, some 15, .loadN 9 (.tmp 3)⟩,
  ⟨none, some 16, .call (.func 55) [(.tmp 15)]⟩,
  ⟨none, some 17, .lenS (.tmp 16)⟩,
  ⟨none, some 18, .mv (.const (.int .i64 0))⟩])
 (.block 0 (.loop (.seq (.region [⟨none, some 19, .bin .lss (.tmp 18) (.tmp 17)⟩])
 (.seq (.cond (.tmp 19) .skip (.exit 0))
 (.seq (.block 1 (.seq (.region [⟨none, some 20, .iadS 1 (.tmp 16) (.tmp 18)⟩,
  ⟨none, some 21, .load1 (.tmp 20)⟩,
  ⟨none, some 6, .mv (.tmp 21)⟩])
 (.region [⟨none, some 22, .mv (.tmp 6)⟩,
  ⟨none, some 23, .iadA 4 1 (.tmp 4) (.tmp 22)⟩,
  ⟨none, none, .store 1 (.tmp 23) (.const (.bool true))⟩])))
 (.region [⟨none, some 24, .bin .add (.tmp 18) (.const (.int .i64 1))⟩,
  ⟨none, some 18, .mv (.tmp 24)⟩])))))))
 (.seq (.seq (.region [⟨none, some 25, .iadA 4 1 (.tmp 4) (.const (.int .i64 2))⟩,
  ⟨none, some 26, .load1 (.tmp 25)⟩,
  ⟨none, some 27, .un .not (.tmp 26)⟩])
 (.cond (.tmp 27) (.region [⟨none, some 28, .fad 2 (.tmp 1)⟩,
  ⟨none, none, .store 1 (.tmp 28) (.const (.int .i64 0))⟩]) .skip))
 (.seq (.seq (.region [⟨none, some 29, .iadA 4 1 (.tmp 4) (.const (.int .i64 3))⟩,
  ⟨none, some 30, .load1 (.tmp 29)⟩,
  ⟨none, some 31, .un .not (.tmp 30)⟩])
 (.cond (.tmp 31) (.region [⟨none, some 32, .fad 3 (.tmp 1)⟩,
  ⟨none, none, .store 1 (.tmp 32) (.const (.int .i64 0))⟩]) .skip))
 (.seq (.region [⟨none, some 33, .loadN 9 (.tmp 1)⟩,
  ⟨none, none, .store 9 (.tmp 2) (.tmp 33)⟩])
 .ret)))))))),
 [.cellN 2 9]⟩
theorem c_decode_Clean : compF P0 pf Go.Proofs.Tryz.f35 = some L_decode_Clean := by kernel_rfl
/-- undertow/show.parts -/
abbrev n_show_parts : Nat := 36
def L_show_parts : LFn := ⟨131, (.seq (.region [⟨none, some 1, .box (.tmp 0)⟩,
  ⟨none, some 2, .mv (.const (.slice none 0 0))⟩])
 (.seq (.region [⟨none, some 4, .fad 4 (.tmp 1)⟩,
  ⟨none, some 5, .load1 (.tmp 4)⟩,
  ⟨none, some 6, .call (.func 31) [(.tmp 5), (.const (.int .i64 10))]⟩,
  ⟨none, some 3, .mv (.tmp 6)⟩])
 (.seq (.seq (.region [⟨none, some 7, .fad 0 (.tmp 1)⟩,
  ⟨none, some 8, .load1 (.tmp 7)⟩,
  ⟨none, some 9, .call (.func 34) [(.tmp 8)]⟩])
 (.block 0 (.seq (.region [⟨none, some 11, .bin .eql (.tmp 9) (.const (.int .i64 1))⟩,
  ⟨none, some 10, .mv (.tmp 11)⟩])
 (.cond (.tmp 10) (.seq (.region [⟨none, some 12, .fad 1 (.tmp 1)⟩,
  ⟨none, some 13, .load1 (.tmp 12)⟩,
  ⟨none, some 14, .call (.func 56) [(.tmp 13)]⟩,
  ⟨none, some 15, .mv (.tmp 3)⟩,
  ⟨none, some 16, .row 1 2 (zeroRow [.string ⟨#[]⟩] 2) [(0, 1, (.tmp 14)), (1, 1, (.tmp 15))]⟩,
  ⟨none, some 2, .mv (.tmp 16)⟩])
 .ret) (.seq (.region [⟨none, some 18, .bin .eql (.tmp 9) (.const (.int .i64 2))⟩,
  ⟨none, some 17, .mv (.tmp 18)⟩])
 (.cond (.tmp 17) (.seq (.seq (.region [⟨none, some 19, .fad 0 (.tmp 1)⟩,
  ⟨none, some 20, .load1 (.tmp 19)⟩,
  ⟨none, some 21, .bin .eql (.tmp 20) (.const (.int .i64 3))⟩])
 (.cond (.tmp 21) (.seq (.region [⟨none, some 22, .fad 1 (.tmp 1)⟩,
  ⟨none, some 23, .load1 (.tmp 22)⟩,
  ⟨none, some 24, .call (.func 56) [(.tmp 23)]⟩,
  ⟨none, some 25, .mv (.tmp 3)⟩,
  ⟨none, some 26, .row 1 2 (zeroRow [.string ⟨#[]⟩] 2) [(0, 1, (.tmp 24)), (1, 1, (.tmp 25))]⟩,
  ⟨none, some 2, .mv (.tmp 26)⟩])
 .ret) .skip))
 (.seq (.region [⟨none, some 27, .fad 1 (.tmp 1)⟩,
  ⟨none, some 28, .load1 (.tmp 27)⟩,
  ⟨none, some 29, .call (.func 56) [(.tmp 28)]⟩,
  ⟨none, some 30, .fad 2 (.tmp 1)⟩,
  ⟨none, some 31, .load1 (.tmp 30)⟩,
  ⟨none, some 32, .call (.func 56) [(.tmp 31)]⟩,
  ⟨none, some 33, .mv (.tmp 3)⟩,
  ⟨none, some 34, .row 1 3 (zeroRow [.string ⟨#[]⟩] 3) [(0, 1, (.tmp 29)), (1, 1, (.tmp 32)), (2, 1, (.tmp 33))]⟩,
  ⟨none, some 2, .mv (.tmp 34)⟩])
 .ret)) (.seq (.region [⟨none, some 36, .bin .eql (.tmp 9) (.const (.int .i64 6))⟩,
  ⟨none, some 35, .mv (.tmp 36)⟩])
 (.cond (.tmp 35) (.seq (.region [⟨none, some 37, .fad 1 (.tmp 1)⟩,
  ⟨none, some 38, .load1 (.tmp 37)⟩,
  ⟨none, some 39, .call (.func 56) [(.tmp 38)]⟩,
  ⟨none, some 40, .fad 2 (.tmp 1)⟩,
  ⟨none, some 41, .load1 (.tmp 40)⟩,
  ⟨none, some 42, .call (.func 56) [(.tmp 41)]⟩,
  ⟨none, some 43, .mv (.tmp 3)⟩,
  ⟨none, some 44, .row 1 3 (zeroRow [.string ⟨#[]⟩] 3) [(0, 1, (.tmp 39)), (1, 1, (.tmp 42)), (2, 1, (.tmp 43))]⟩,
  ⟨none, some 2, .mv (.tmp 44)⟩])
 .ret) (.seq (.region [⟨none, some 46, .bin .eql (.tmp 9) (.const (.int .i64 3))⟩,
  ⟨none, some 45, .mv (.tmp 46)⟩])
 (.cond (.tmp 45) (.seq (.region [⟨none, some 47, .fad 2 (.tmp 1)⟩,
  ⟨none, some 48, .load1 (.tmp 47)⟩,
  ⟨none, some 49, .call (.func 56) [(.tmp 48)]⟩,
  ⟨none, some 50, .fad 3 (.tmp 1)⟩,
  ⟨none, some 51, .load1 (.tmp 50)⟩,
  ⟨none, some 52, .call (.func 56) [(.tmp 51)]⟩,
  ⟨none, some 53, .mv (.tmp 3)⟩,
  ⟨none, some 54, .row 1 3 (zeroRow [.string ⟨#[]⟩] 3) [(0, 1, (.tmp 49)), (1, 1, (.tmp 52)), (2, 1, (.tmp 53))]⟩,
  ⟨none, some 2, .mv (.tmp 54)⟩])
 .ret) (.seq (.region [⟨none, some 56, .bin .eql (.tmp 9) (.const (.int .i64 4))⟩,
  ⟨none, some 55, .mv (.tmp 56)⟩])
 (.cond (.tmp 55) (.seq (.region [⟨none, some 57, .fad 1 (.tmp 1)⟩,
  ⟨none, some 58, .load1 (.tmp 57)⟩,
  ⟨none, some 59, .call (.func 56) [(.tmp 58)]⟩,
  ⟨none, some 60, .mv (.tmp 3)⟩,
  ⟨none, some 61, .bin .add (.tmp 60) (.const (.string ⟨#[40]⟩))⟩,
  ⟨none, some 62, .fad 2 (.tmp 1)⟩,
  ⟨none, some 63, .load1 (.tmp 62)⟩,
  ⟨none, some 64, .call (.func 56) [(.tmp 63)]⟩,
  ⟨none, some 65, .bin .add (.tmp 61) (.tmp 64)⟩,
  ⟨none, some 66, .bin .add (.tmp 65) (.const (.string ⟨#[41]⟩))⟩,
  ⟨none, some 67, .row 1 2 (zeroRow [.string ⟨#[]⟩] 2) [(0, 1, (.tmp 59)), (1, 1, (.tmp 66))]⟩,
  ⟨none, some 2, .mv (.tmp 67)⟩])
 .ret) (.seq (.region [⟨none, some 69, .bin .eql (.tmp 9) (.const (.int .i64 5))⟩,
  ⟨none, some 68, .mv (.tmp 69)⟩])
 (.cond (.tmp 68) (.seq (.region [⟨none, some 70, .fad 3 (.tmp 1)⟩,
  ⟨none, some 71, .load1 (.tmp 70)⟩,
  ⟨none, some 72, .call (.func 56) [(.tmp 71)]⟩,
  ⟨none, some 73, .mv (.tmp 3)⟩,
  ⟨none, some 74, .bin .add (.tmp 73) (.const (.string ⟨#[40]⟩))⟩,
  ⟨none, some 75, .fad 2 (.tmp 1)⟩,
  ⟨none, some 76, .load1 (.tmp 75)⟩,
  ⟨none, some 77, .call (.func 56) [(.tmp 76)]⟩,
  ⟨none, some 78, .bin .add (.tmp 74) (.tmp 77)⟩,
  ⟨none, some 79, .bin .add (.tmp 78) (.const (.string ⟨#[41]⟩))⟩,
  ⟨none, some 80, .row 1 2 (zeroRow [.string ⟨#[]⟩] 2) [(0, 1, (.tmp 72)), (1, 1, (.tmp 79))]⟩,
  ⟨none, some 2, .mv (.tmp 80)⟩])
 .ret) (.seq (.region [⟨none, some 82, .bin .eql (.tmp 9) (.const (.int .i64 7))⟩,
  ⟨none, some 81, .mv (.tmp 82)⟩])
 (.cond (.tmp 81) (.seq (.region [⟨none, some 83, .fad 1 (.tmp 1)⟩,
  ⟨none, some 84, .load1 (.tmp 83)⟩,
  ⟨none, some 85, .call (.func 56) [(.tmp 84)]⟩,
  ⟨none, some 86, .fad 2 (.tmp 1)⟩,
  ⟨none, some 87, .load1 (.tmp 86)⟩,
  ⟨none, some 88, .call (.func 56) [(.tmp 87)]⟩,
  ⟨none, some 89, .fad 3 (.tmp 1)⟩,
  ⟨none, some 90, .load1 (.tmp 89)⟩,
  ⟨none, some 91, .call (.func 56) [(.tmp 90)]⟩,
  ⟨none, some 92, .row 1 3 (zeroRow [.string ⟨#[]⟩] 3) [(0, 1, (.tmp 85)), (1, 1, (.tmp 88)), (2, 1, (.tmp 91))]⟩,
  ⟨none, some 2, .mv (.tmp 92)⟩])
 .ret) (.seq (.region [⟨none, some 94, .bin .eql (.tmp 9) (.const (.int .i64 8))⟩,
  ⟨none, some 93, .mv (.tmp 94)⟩])
 (.cond (.tmp 93) (.seq (.region [⟨none, some 95, .fad 0 (.tmp 1)⟩,
  ⟨none, some 96, .load1 (.tmp 95)⟩,
  ⟨none, some 97, .bin .eql (.tmp 96) (.const (.int .i64 50))⟩])
 (.cond (.tmp 97) (.seq (.region [⟨none, some 98, .fad 7 (.tmp 1)⟩,
  ⟨none, some 99, .load1 (.tmp 98)⟩,
  ⟨none, some 100, .call (.func 57) [(.tmp 99)]⟩,
  ⟨none, some 101, .fad 8 (.tmp 1)⟩,
  ⟨none, some 102, .load1 (.tmp 101)⟩,
  ⟨none, some 103, .call (.func 57) [(.tmp 102)]⟩,
  ⟨none, some 104, .row 1 2 (zeroRow [.string ⟨#[]⟩] 2) [(0, 1, (.tmp 100)), (1, 1, (.tmp 103))]⟩,
  ⟨none, some 2, .mv (.tmp 104)⟩])
 .ret) .skip)) (.seq (.region [⟨none, some 106, .bin .eql (.tmp 9) (.const (.int .i64 10))⟩,
  ⟨none, some 105, .mv (.tmp 106)⟩])
 (.cond (.tmp 105) (.seq (.region [⟨none, some 107, .fad 1 (.tmp 1)⟩,
  ⟨none, some 108, .load1 (.tmp 107)⟩,
  ⟨none, some 109, .call (.func 56) [(.tmp 108)]⟩,
  ⟨none, some 110, .fad 2 (.tmp 1)⟩,
  ⟨none, some 111, .load1 (.tmp 110)⟩,
  ⟨none, some 112, .call (.func 56) [(.tmp 111)]⟩,
  ⟨none, some 113, .bin .add (.const (.string ⟨#[40]⟩)) (.tmp 112)⟩,
  ⟨none, some 114, .bin .add (.tmp 113) (.const (.string ⟨#[41]⟩))⟩,
  ⟨none, some 115, .row 1 2 (zeroRow [.string ⟨#[]⟩] 2) [(0, 1, (.tmp 109)), (1, 1, (.tmp 114))]⟩,
  ⟨none, some 2, .mv (.tmp 115)⟩])
 .ret) (.seq (.seq (.region [⟨none, some 117, .bin .eql (.tmp 9) (.const (.int .i64 11))⟩,
  ⟨none, some 116, .mv (.tmp 117)⟩])
 (.cond (.tmp 116) .skip (.region [⟨none, some 118, .bin .eql (.tmp 9) (.const (.int .i64 12))⟩,
  ⟨none, some 116, .mv (.tmp 118)⟩])))
 (.cond (.tmp 116) (.seq (.region [⟨none, some 119, .fad 1 (.tmp 1)⟩,
  ⟨none, some 120, .load1 (.tmp 119)⟩,
  ⟨none, some 121, .call (.func 56) [(.tmp 120)]⟩,
  ⟨none, some 122, .fad 3 (.tmp 1)⟩,
  ⟨none, some 123, .load1 (.tmp 122)⟩,
  ⟨none, some 124, .call (.func 56) [(.tmp 123)]⟩,
  ⟨none, some 125, .fad 2 (.tmp 1)⟩,
  ⟨none, some 126, .load1 (.tmp 125)⟩,
  ⟨none, some 127, .call (.func 56) [(.tmp 126)]⟩,
  ⟨none, some 128, .bin .add (.const (.string ⟨#[40]⟩)) (.tmp 127)⟩,
  ⟨none, some 129, .bin .add (.tmp 128) (.const (.string ⟨#[41]⟩))⟩,
  ⟨none, some 130, .row 1 3 (zeroRow [.string ⟨#[]⟩] 3) [(0, 1, (.tmp 121)), (1, 1, (.tmp 124)), (2, 1, (.tmp 129))]⟩,
  ⟨none, some 2, .mv (.tmp 130)⟩])
 .ret) .skip))))))))))))))))))))))
 (.seq (.region [⟨none, some 2, .mv (.const (.slice none 0 0))⟩])
 .ret)))),
 [.tmp 2]⟩
theorem c_show_parts : compF P0 pf Go.Proofs.Tryz.f36 = some L_show_parts := by kernel_rfl
/-- undertow/show.name -/
abbrev n_show_name : Nat := 37
def L_show_name : LFn := ⟨27, (.seq (.region [⟨none, some 1, .box (.tmp 0)⟩,
  ⟨none, some 2, .mv (.const (.string ⟨#[]⟩))⟩])
 (.seq (.region [⟨none, some 4, .fad 0 (.tmp 1)⟩,
  ⟨none, some 5, .load1 (.tmp 4)⟩,
  ⟨none, some 6, .call (.func 58) [(.tmp 5)]⟩,
  ⟨none, some 3, .mv (.tmp 6)⟩])
 (.seq (.block 0 (.seq (.region [⟨none, some 8, .fad 5 (.tmp 1)⟩,
  ⟨none, some 9, .load1 (.tmp 8)⟩,
  ⟨none, some 10, .mv (.tmp 9)⟩,
  ⟨some (10, true), some 11, .fad 6 (.tmp 1)⟩,
  ⟨some (10, true), some 12, .load1 (.tmp 11)⟩,
  ⟨none, some 13, .pick (.tmp 10) (.tmp 12) (.const (.bool false))⟩,
  ⟨none, some 7, .mv (.tmp 13)⟩])
 (.cond (.tmp 7) (.seq (.region [⟨none, some 14, .mv (.tmp 3)⟩,
  ⟨none, some 15, .bin .add (.tmp 14) (.const (.string ⟨#[46, 97, 113, 114, 108]⟩))⟩,
  ⟨none, some 2, .mv (.tmp 15)⟩])
 .ret) (.seq (.region [⟨none, some 17, .fad 5 (.tmp 1)⟩,
  ⟨none, some 18, .load1 (.tmp 17)⟩,
  ⟨none, some 16, .mv (.tmp 18)⟩])
 (.cond (.tmp 16) (.seq (.region [⟨none, some 19, .mv (.tmp 3)⟩,
  ⟨none, some 20, .bin .add (.tmp 19) (.const (.string ⟨#[46, 97, 113]⟩))⟩,
  ⟨none, some 2, .mv (.tmp 20)⟩])
 .ret) (.seq (.region [⟨none, some 22, .fad 6 (.tmp 1)⟩,
  ⟨none, some 23, .load1 (.tmp 22)⟩,
  ⟨none, some 21, .mv (.tmp 23)⟩])
 (.cond (.tmp 21) (.seq (.region [⟨none, some 24, .mv (.tmp 3)⟩,
  ⟨none, some 25, .bin .add (.tmp 24) (.const (.string ⟨#[46, 114, 108]⟩))⟩,
  ⟨none, some 2, .mv (.tmp 25)⟩])
 .ret) .skip)))))))
 (.seq (.region [⟨none, some 26, .mv (.tmp 3)⟩,
  ⟨none, some 2, .mv (.tmp 26)⟩])
 .ret)))),
 [.tmp 2]⟩
theorem c_show_name : compF P0 pf Go.Proofs.Tryz.f37 = some L_show_name := by kernel_rfl
/-- undertow/undertowref05.Names -/
abbrev n_ref05_Names : Nat := 39
def L_ref05_Names : LFn := ⟨2, (.seq (.region [⟨none, some 0, .mv (.const (.slice none 0 0))⟩])
 (.seq (.region [⟨none, some 1, .row 1 75 (zeroRow [.string ⟨#[]⟩] 75) [(0, 1, (.const (.string ⟨#[108, 117, 105]⟩))), (1, 1, (.const (.string ⟨#[97, 117, 105, 112, 99]⟩))), (2, 1, (.const (.string ⟨#[106, 97, 108]⟩))), (3, 1, (.const (.string ⟨#[106, 97, 108, 114]⟩))), (4, 1, (.const (.string ⟨#[98, 101, 113]⟩))), (5, 1, (.const (.string ⟨#[98, 110, 101]⟩))), (6, 1, (.const (.string ⟨#[98, 108, 116]⟩))), (7, 1, (.const (.string ⟨#[98, 103, 101]⟩))), (8, 1, (.const (.string ⟨#[98, 108, 116, 117]⟩))), (9, 1, (.const (.string ⟨#[98, 103, 101, 117]⟩))), (10, 1, (.const (.string ⟨#[108, 98]⟩))), (11, 1, (.const (.string ⟨#[108, 104]⟩))), (12, 1, (.const (.string ⟨#[108, 119]⟩))), (13, 1, (.const (.string ⟨#[108, 100]⟩))), (14, 1, (.const (.string ⟨#[108, 98, 117]⟩))), (15, 1, (.const (.string ⟨#[108, 104, 117]⟩))), (16, 1, (.const (.string ⟨#[108, 119, 117]⟩))), (17, 1, (.const (.string ⟨#[115, 98]⟩))), (18, 1, (.const (.string ⟨#[115, 104]⟩))), (19, 1, (.const (.string ⟨#[115, 119]⟩))), (20, 1, (.const (.string ⟨#[115, 100]⟩))), (21, 1, (.const (.string ⟨#[97, 100, 100, 105]⟩))), (22, 1, (.const (.string ⟨#[115, 108, 116, 105]⟩))), (23, 1, (.const (.string ⟨#[115, 108, 116, 105, 117]⟩))), (24, 1, (.const (.string ⟨#[120, 111, 114, 105]⟩))), (25, 1, (.const (.string ⟨#[111, 114, 105]⟩))), (26, 1, (.const (.string ⟨#[97, 110, 100, 105]⟩))), (27, 1, (.const (.string ⟨#[115, 108, 108, 105]⟩))), (28, 1, (.const (.string ⟨#[115, 114, 108, 105]⟩))), (29, 1, (.const (.string ⟨#[115, 114, 97, 105]⟩))), (30, 1, (.const (.string ⟨#[97, 100, 100, 105, 119]⟩))), (31, 1, (.const (.string ⟨#[115, 108, 108, 105, 119]⟩))), (32, 1, (.const (.string ⟨#[115, 114, 108, 105, 119]⟩))), (33, 1, (.const (.string ⟨#[115, 114, 97, 105, 119]⟩))), (34, 1, (.const (.string ⟨#[97, 100, 100]⟩))), (35, 1, (.const (.string ⟨#[115, 117, 98]⟩))), (36, 1, (.const (.string ⟨#[115, 108, 108]⟩))), (37, 1, (.const (.string ⟨#[115, 108, 116]⟩))), (38, 1, (.const (.string ⟨#[115, 108, 116, 117]⟩))), (39, 1, (.const (.string ⟨#[120, 111, 114]⟩))), (40, 1, (.const (.string ⟨#[115, 114, 108]⟩))), (41, 1, (.const (.string ⟨#[115, 114, 97]⟩))), (42, 1, (.const (.string ⟨#[111, 114]⟩))), (43, 1, (.const (.string ⟨#[97, 110, 100]⟩))), (44, 1, (.const (.string ⟨#[97, 100, 100, 119]⟩))), (45, 1, (.const (.string ⟨#[115, 117, 98, 119]⟩))), (46, 1, (.const (.string ⟨#[115, 108, 108, 119]⟩))), (47, 1, (.const (.string ⟨#[115, 114, 108, 119]⟩))), (48, 1, (.const (.string ⟨#[115, 114, 97, 119]⟩))), (49, 1, (.const (.string ⟨#[102, 101, 110, 99, 101]⟩))), (50, 1, (.const (.string ⟨#[102, 101, 110, 99, 101, 46, 116, 115, 111]⟩))), (51, 1, (.const (.string ⟨#[101, 99, 97, 108, 108]⟩))), (52, 1, (.const (.string ⟨#[101, 98, 114, 101, 97, 107]⟩))), (53, 1, (.const (.string ⟨#[108, 114, 46, 119]⟩))), (54, 1, (.const (.string ⟨#[108, 114, 46, 100]⟩))), (55, 1, (.const (.string ⟨#[115, 99, 46, 119]⟩))), (56, 1, (.const (.string ⟨#[115, 99, 46, 100]⟩))), (57, 1, (.const (.string ⟨#[97, 109, 111, 115, 119, 97, 112, 46, 119]⟩))), (58, 1, (.const (.string ⟨#[97, 109, 111, 97, 100, 100, 46, 119]⟩))), (59, 1, (.const (.string ⟨#[97, 109, 111, 120, 111, 114, 46, 119]⟩))), (60, 1, (.const (.string ⟨#[97, 109, 111, 97, 110, 100, 46, 119]⟩))), (61, 1, (.const (.string ⟨#[97, 109, 111, 111, 114, 46, 119]⟩))), (62, 1, (.const (.string ⟨#[97, 109, 111, 109, 105, 110, 46, 119]⟩))), (63, 1, (.const (.string ⟨#[97, 109, 111, 109, 97, 120, 46, 119]⟩))), (64, 1, (.const (.string ⟨#[97, 109, 111, 109, 105, 110, 117, 46, 119]⟩))), (65, 1, (.const (.string ⟨#[97, 109, 111, 109, 97, 120, 117, 46, 119]⟩))), (66, 1, (.const (.string ⟨#[97, 109, 111, 115, 119, 97, 112, 46, 100]⟩))), (67, 1, (.const (.string ⟨#[97, 109, 111, 97, 100, 100, 46, 100]⟩))), (68, 1, (.const (.string ⟨#[97, 109, 111, 120, 111, 114, 46, 100]⟩))), (69, 1, (.const (.string ⟨#[97, 109, 111, 97, 110, 100, 46, 100]⟩))), (70, 1, (.const (.string ⟨#[97, 109, 111, 111, 114, 46, 100]⟩))), (71, 1, (.const (.string ⟨#[97, 109, 111, 109, 105, 110, 46, 100]⟩))), (72, 1, (.const (.string ⟨#[97, 109, 111, 109, 97, 120, 46, 100]⟩))), (73, 1, (.const (.string ⟨#[97, 109, 111, 109, 105, 110, 117, 46, 100]⟩))), (74, 1, (.const (.string ⟨#[97, 109, 111, 109, 97, 120, 117, 46, 100]⟩)))]⟩,
  ⟨none, some 0, .mv (.tmp 1)⟩])
 .ret)),
 [.tmp 0]⟩
theorem c_ref05_Names : compF P0 pf Go.Proofs.Tryz.f39 = some L_ref05_Names := by kernel_rfl
/-- undertow/show.operation -/
abbrev n_show_operation : Nat := 41
def L_show_operation : LFn := ⟨33, (.seq (.region [⟨none, some 2, .alloc [.int .i64 0, .int .i64 0, .int .i64 0, .int .i64 0, .int .i64 0, .bool false, .bool false, .int .i64 0, .int .i64 0]⟩])
 (.seq (.seq (.region [⟨none, some 7, .build [.string ⟨#[]⟩, .bool false, .bool false] [(0, 1, (.const (.string ⟨#[46, 97, 113, 114, 108]⟩))), (1, 1, (.const (.bool true))), (2, 1, (.const (.bool true)))]⟩,
  ⟨none, some 8, .build [.string ⟨#[]⟩, .bool false, .bool false] [(0, 1, (.const (.string ⟨#[46, 97, 113]⟩))), (1, 1, (.const (.bool true))), (2, 1, (.const (.bool false)))]⟩,
  ⟨none, some 9, .build [.string ⟨#[]⟩, .bool false, .bool false] [(0, 1, (.const (.string ⟨#[46, 114, 108]⟩))), (1, 1, (.const (.bool false))), (2, 1, (.const (.bool true)))]⟩,
  ⟨none, some 10, .build [.string ⟨#[]⟩, .bool false, .bool false, .string ⟨#[]⟩, .bool false, .bool false, .string ⟨#[]⟩, .bool false, .bool false] [(0, 3, (.tmp 7)), (3, 3, (.tmp 8)), (6, 3, (.tmp 9))]⟩,
  ⟨none, some 11, .mv (.const (.int .i64 0))⟩])
 (.block 0 (.loop (.seq (.region [⟨none, some 12, .bin .lss (.tmp 11) (.const (.int .i64 3))⟩])
 (.seq (.cond (.tmp 12) .skip (.exit 0))
 (.seq (.block 1 (.seq (.region [⟨none, some 13, .ixN 3 3 (.tmp 10) (.tmp 11)⟩,
  ⟨none, some 4, .alloc [.string ⟨#[]⟩, .bool false, .bool false]⟩,
  ⟨none, none, .store 3 (.tmp 4) (.tmp 13)⟩])
 (.seq (.region [⟨none, some 15, .mv (.tmp 0)⟩,
  ⟨none, some 16, .fad 0 (.tmp 4)⟩,
  ⟨none, some 17, .load1 (.tmp 16)⟩,
  ⟨none, some 18, .call (.func 63) [(.tmp 15), (.tmp 17)]⟩,
  ⟨none, some 14, .mv (.tmp 18)⟩,
  ⟨none, some 19, .ext (.tmp 14) 0⟩,
  ⟨none, some 20, .ext (.tmp 14) 1⟩,
  ⟨none, some 5, .mv (.tmp 19)⟩,
  ⟨none, some 6, .mv (.tmp 20)⟩])
 (.seq (.region [⟨none, some 21, .mv (.tmp 6)⟩])
 (.cond (.tmp 21) (.seq (.region [⟨none, some 22, .mv (.tmp 5)⟩,
  ⟨none, some 23, .call (.func 64) [(.tmp 22)]⟩,
  ⟨none, some 24, .fad 1 (.tmp 4)⟩,
  ⟨none, some 25, .load1 (.tmp 24)⟩,
  ⟨none, some 26, .fad 2 (.tmp 4)⟩,
  ⟨none, some 27, .load1 (.tmp 26)⟩,
  ⟨none, some 28, .build [.int .i64 0, .int .i64 0, .int .i64 0, .int .i64 0, .int .i64 0, .bool false, .bool false, .int .i64 0, .int .i64 0] [(0, 1, (.tmp 23)), (5, 1, (.tmp 25)), (6, 1, (.tmp 27))]⟩,
  ⟨none, none, .store 9 (.tmp 2) (.tmp 28)⟩])
 .ret) .skip)))))
 (.region [⟨none, some 29, .bin .add (.tmp 11) (.const (.int .i64 1))⟩,
  ⟨none, some 11, .mv (.tmp 29)⟩])))))))
 (.seq (.region [⟨none, some 30, .mv (.tmp 0)⟩,
  ⟨none, some 31, .call (.func 64) [(.tmp 30)]⟩,
  ⟨none, some 32, .build [.int .i64 0, .int .i64 0, .int .i64 0, .int .i64 0, .int .i64 0, .bool false, .bool false, .int .i64 0, .int .i64 0] [(0, 1, (.tmp 31))]⟩,
  ⟨none, none, .store 9 (.tmp 2) (.tmp 32)⟩])
 .ret))),
 [.cellN 2 9]⟩
theorem c_show_operation : compF P0 pf Go.Proofs.Tryz.f41 = some L_show_operation := by kernel_rfl
/-- undertow/show.cut -/
abbrev n_show_cut : Nat := 42
def L_show_cut : LFn := ⟨52, (.seq (.region [⟨none, some 2, .mv (.const (.slice none 0 0))⟩])
 (.seq (.region [⟨none, some 3, .mv (.const (.slice none 0 0))⟩])
 (.seq (.region [⟨none, some 4, .mv (.const (.int .i64 0))⟩])
 (.seq .skip
 (.seq (.seq (.region [⟨none, some 5, .mv (.const (.int .i64 0))⟩])
 (.block 0 (.loop (.seq (.seq (.region [⟨none, some 6, .mv (.tmp 5)⟩,
  ⟨none, some 7, .mv (.tmp 0)⟩,
  ⟨none, some 8, .lenT (.tmp 7)⟩,
  ⟨none, some 9, .bin .leq (.tmp 6) (.tmp 8)⟩])
 (.cond (.tmp 9) .skip (.exit 0)))
 (.seq (.block 1 (.block 2 (.seq (.region [⟨none, some 13, .mv (.tmp 5)⟩,
  ⟨none, some 14, .mv (.tmp 0)⟩,
  ⟨none, some 15, .lenT (.tmp 14)⟩,
  ⟨none, some 16, .bin .eql (.tmp 13) (.tmp 15)⟩,
  ⟨none, some 12, .mv (.tmp 16)⟩])
 (.cond (.tmp 12) (.seq (.region [⟨none, some 17, .mv (.tmp 3)⟩,
  ⟨none, some 18, .mv (.tmp 0)⟩,
  ⟨none, some 19, .mv (.tmp 4)⟩,
  ⟨none, some 20, .slcT (.tmp 18) (some (.tmp 19)) none⟩,
  ⟨none, some 21, .rowM 1 (zeroRow [.string ⟨#[]⟩] 1) [(0, 1, (.tmp 20))]⟩,
  ⟨none, some 22, .app 1 16 (.tmp 17) (.tmp 21)⟩,
  ⟨none, some 3, .mv (.tmp 22)⟩])
 (.exit 0)) (.seq (.region [⟨none, some 24, .mv (.tmp 0)⟩,
  ⟨none, some 25, .mv (.tmp 5)⟩,
  ⟨none, some 26, .slcT (.tmp 24) (some (.tmp 25)) none⟩,
  ⟨none, some 27, .call (.func 65) [(.tmp 26), (.const (.string ⟨#[44, 32]⟩))]⟩,
  ⟨none, some 23, .mv (.tmp 27)⟩])
 (.cond (.tmp 23) (.seq (.region [⟨none, some 28, .mv (.tmp 3)⟩,
  ⟨none, some 29, .mv (.tmp 0)⟩,
  ⟨none, some 30, .mv (.tmp 4)⟩,
  ⟨none, some 31, .mv (.tmp 5)⟩,
  ⟨none, some 32, .slcT (.tmp 29) (some (.tmp 30)) (some (.tmp 31))⟩,
  ⟨none, some 33, .rowM 1 (zeroRow [.string ⟨#[]⟩] 1) [(0, 1, (.tmp 32))]⟩,
  ⟨none, some 34, .app 1 16 (.tmp 28) (.tmp 33)⟩,
  ⟨none, some 3, .mv (.tmp 34)⟩])
 (.region [⟨none, some 35, .mv (.tmp 5)⟩,
  ⟨none, some 36, .bin .add (.tmp 35) (.const (.int .i64 2))⟩,
  ⟨none, some 4, .mv (.tmp 36)⟩])) (.seq (.region [⟨none, some 38, .mv (.tmp 0)⟩,
  ⟨none, some 39, .mv (.tmp 5)⟩,
  ⟨none, some 40, .ixS (.tmp 38) (.tmp 39)⟩,
  ⟨none, some 41, .bin .eql (.tmp 40) (.const (.int .u8 40))⟩,
  ⟨none, some 37, .mv (.tmp 41)⟩])
 (.cond (.tmp 37) (.seq (.region [⟨none, some 42, .mv (.tmp 3)⟩,
  ⟨none, some 43, .mv (.tmp 0)⟩,
  ⟨none, some 44, .mv (.tmp 4)⟩,
  ⟨none, some 45, .mv (.tmp 5)⟩,
  ⟨none, some 46, .slcT (.tmp 43) (some (.tmp 44)) (some (.tmp 45))⟩,
  ⟨none, some 47, .rowM 1 (zeroRow [.string ⟨#[]⟩] 1) [(0, 1, (.tmp 46))]⟩,
  ⟨none, some 48, .app 1 16 (.tmp 42) (.tmp 47)⟩,
  ⟨none, some 3, .mv (.tmp 48)⟩])
 (.region [⟨none, some 49, .mv (.tmp 5)⟩,
  ⟨none, some 50, .bin .add (.tmp 49) (.const (.int .i64 1))⟩,
  ⟨none, some 4, .mv (.tmp 50)⟩])) .skip))))))))
 (.region [⟨none, some 10, .mv (.tmp 5)⟩,
  ⟨none, some 11, .bin .add (.tmp 10) (.const (.int .i64 1))⟩,
  ⟨none, some 5, .mv (.tmp 11)⟩]))))))
 (.seq (.region [⟨none, some 51, .mv (.tmp 3)⟩,
  ⟨none, some 2, .mv (.tmp 51)⟩])
 .ret)))))),
 [.tmp 2]⟩
theorem c_show_cut : compF P0 pf Go.Proofs.Tryz.f42 = some L_show_cut := by kernel_rfl
/-- strings.TrimSuffix -/
abbrev n_strings_TrimSuffix : Nat := 43
def L_strings_TrimSuffix : LFn := ⟨8, (.seq (.region [⟨none, some 4, .mv (.const (.string ⟨#[]⟩))⟩])
 (.seq (.region [⟨none, some 5, .mv (.tmp 0)⟩,
  ⟨none, some 6, .mv (.tmp 1)⟩,
  ⟨none, some 7, .call (.func 66) [(.tmp 5), (.tmp 6)]⟩,
  ⟨none, some 4, .mv (.tmp 7)⟩])
 .ret)),
 [.tmp 4]⟩
theorem c_strings_TrimSuffix : compF P0 pf Go.Proofs.Tryz.f43 = some L_strings_TrimSuffix := by kernel_rfl
/-- undertow/show.guess$1 -/
abbrev n_show_guess_1 : Nat := 44
def L_show_guess_1 : LFn := ⟨15, (.seq (.region [⟨none, some 3, .mv (.const (.int .i64 0))⟩])
 (.seq (.region [⟨none, some 7, .load1 (.tmp 1)⟩,
  ⟨none, some 8, .mv (.tmp 0)⟩,
  ⟨none, some 9, .iadS 1 (.tmp 7) (.tmp 8)⟩,
  ⟨none, some 10, .load1 (.tmp 9)⟩,
  ⟨none, some 11, .call (.func 12) [(.tmp 10)]⟩,
  ⟨none, some 6, .mv (.tmp 11)⟩,
  ⟨none, some 12, .ext (.tmp 6) 0⟩,
  ⟨none, some 13, .ext (.tmp 6) 1⟩,
  ⟨none, some 4, .mv (.tmp 12)⟩,
  ⟨none, some 5, .mv (.tmp 13)⟩])
 (.seq (.region [⟨none, some 14, .mv (.tmp 4)⟩,
  ⟨none, some 3, .mv (.tmp 14)⟩])
 .ret))),
 [.tmp 3]⟩
theorem c_show_guess_1 : compF P0 pf Go.Proofs.Tryz.f44 = some L_show_guess_1 := by kernel_rfl
/-- undertow/show.guess$2 -/
abbrev n_show_guess_2 : Nat := 45
def L_show_guess_2 : LFn := ⟨15, (.seq (.region [⟨none, some 3, .mv (.const (.int .i64 0))⟩])
 (.seq (.region [⟨none, some 7, .load1 (.tmp 1)⟩,
  ⟨none, some 8, .mv (.tmp 0)⟩,
  ⟨none, some 9, .iadS 1 (.tmp 7) (.tmp 8)⟩,
  ⟨none, some 10, .load1 (.tmp 9)⟩,
  ⟨none, some 11, .call (.func 11) [(.tmp 10)]⟩,
  ⟨none, some 6, .mv (.tmp 11)⟩,
  ⟨none, some 12, .ext (.tmp 6) 0⟩,
  ⟨none, some 13, .ext (.tmp 6) 1⟩,
  ⟨none, some 4, .mv (.tmp 12)⟩,
  ⟨none, some 5, .mv (.tmp 13)⟩])
 (.seq (.region [⟨none, some 14, .mv (.tmp 4)⟩,
  ⟨none, some 3, .mv (.tmp 14)⟩])
 .ret))),
 [.tmp 3]⟩
theorem c_show_guess_2 : compF P0 pf Go.Proofs.Tryz.f45 = some L_show_guess_2 := by kernel_rfl
/-- undertow/show.asSet -/
abbrev n_show_asSet : Nat := 46
def L_show_asSet : LFn := ⟨20, (.seq (.region [⟨none, some 2, .mv (.const (.int .i64 0))⟩])
 (.seq (.region [⟨none, some 3, .mv (.const (.int .i64 0))⟩])
 (.seq (.seq (.region [⟨none, some 5, .mv (.const (.int .i64 0))⟩])
 (.block 0 (.loop (.seq (.region [⟨none, some 6, .bin .lss (.tmp 5) (.const (.int .i64 4))⟩])
 (.seq (.cond (.tmp 6) .skip (.exit 0))
 (.seq (.block 1 (.seq (.region [⟨none, some 7, .mv (.tmp 5)⟩,
  ⟨none, some 4, .mv (.tmp 7)⟩])
 (.seq (.region [⟨none, some 8, .mv (.tmp 0)⟩,
  ⟨none, some 9, .mv (.tmp 4)⟩,
  ⟨none, some 10, .mv (.tmp 4)⟩,
  ⟨none, some 11, .bin .add (.tmp 10) (.const (.int .i64 1))⟩,
  ⟨none, some 12, .slcT (.const (.string ⟨#[105, 111, 114, 119]⟩)) (some (.tmp 9)) (some (.tmp 11))⟩,
  ⟨none, some 13, .call (.func 67) [(.tmp 8), (.tmp 12)]⟩])
 (.cond (.tmp 13) (.region [⟨none, some 14, .mv (.tmp 3)⟩,
  ⟨none, some 15, .mv (.tmp 4)⟩,
  ⟨none, some 16, .bin .shr (.const (.int .i64 8)) (.tmp 15)⟩,
  ⟨none, some 17, .bin .or (.tmp 14) (.tmp 16)⟩,
  ⟨none, some 3, .mv (.tmp 17)⟩]) .skip))))
 (.region [⟨none, some 18, .bin .add (.tmp 5) (.const (.int .i64 1))⟩,
  ⟨none, some 5, .mv (.tmp 18)⟩])))))))
 (.seq (.region [⟨none, some 19, .mv (.tmp 3)⟩,
  ⟨none, some 2, .mv (.tmp 19)⟩])
 .ret)))),
 [.tmp 2]⟩
theorem c_show_asSet : compF P0 pf Go.Proofs.Tryz.f46 = some L_show_asSet := by kernel_rfl
/-- internal/stringslite.CutPrefix -/
abbrev n_stringslite_CutPrefix : Nat := 50
def L_stringslite_CutPrefix : LFn := ⟨15, (.seq (.region [⟨none, some 4, .mv (.const (.string ⟨#[]⟩))⟩,
  ⟨none, some 5, .mv (.const (.bool false))⟩])
 (.seq (.seq (.region [⟨none, some 6, .mv (.tmp 0)⟩,
  ⟨none, some 7, .mv (.tmp 1)⟩,
  ⟨none, some 8, .call (.func 77) [(.tmp 6), (.tmp 7)]⟩,
  ⟨none, some 9, .un .not (.tmp 8)⟩])
 (.cond (.tmp 9) (.seq (.region [⟨none, some 10, .mv (.tmp 0)⟩,
  ⟨none, some 4, .mv (.tmp 10)⟩,
  ⟨none, some 5, .mv (.const (.bool false))⟩])
 .ret) .skip))
 (.seq (.region [⟨none, some 11, .mv (.tmp 0)⟩,
  ⟨none, some 12, .mv (.tmp 1)⟩,
  ⟨none, some 13, .lenT (.tmp 12)⟩,
  ⟨none, some 14, .slcT (.tmp 11) (some (.tmp 13)) none⟩,
  ⟨none, some 4, .mv (.tmp 14)⟩,
  ⟨none, some 5, .mv (.const (.bool true))⟩])
 .ret))),
 [.tmp 4, .tmp 5]⟩
theorem c_stringslite_CutPrefix : compF P0 pf Go.Proofs.Tryz.f50 = some L_stringslite_CutPrefix := by kernel_rfl
/-- undertow/encode.shift -/
abbrev n_encode_shift : Nat := 51
def L_encode_shift : LFn := ⟨12, (.seq (.region [⟨none, some 2, .mv (.const (.int .i64 0))⟩])
 (.seq (.seq (.region [⟨none, some 3, .mv (.tmp 0)⟩])
 (.block 0 (.seq (.seq (.region [⟨none, some 5, .bin .eql (.tmp 3) (.const (.int .i64 28))⟩,
  ⟨none, some 4, .mv (.tmp 5)⟩])
 (.cond (.tmp 4) .skip (.seq (.region [⟨none, some 6, .bin .eql (.tmp 3) (.const (.int .i64 29))⟩,
  ⟨none, some 4, .mv (.tmp 6)⟩])
 (.cond (.tmp 4) .skip (.region [⟨none, some 7, .bin .eql (.tmp 3) (.const (.int .i64 30))⟩,
  ⟨none, some 4, .mv (.tmp 7)⟩])))))
 (.cond (.tmp 4) (.seq (.region [⟨none, some 2, .mv (.const (.int .i64 6))⟩])
 .ret) (.seq (.seq (.region [⟨none, some 9, .bin .eql (.tmp 3) (.const (.int .i64 32))⟩,
  ⟨none, some 8, .mv (.tmp 9)⟩])
 (.cond (.tmp 8) .skip (.seq (.region [⟨none, some 10, .bin .eql (.tmp 3) (.const (.int .i64 33))⟩,
  ⟨none, some 8, .mv (.tmp 10)⟩])
 (.cond (.tmp 8) .skip (.region [⟨none, some 11, .bin .eql (.tmp 3) (.const (.int .i64 34))⟩,
  ⟨none, some 8, .mv (.tmp 11)⟩])))))
 (.cond (.tmp 8) (.seq (.region [⟨none, some 2, .mv (.const (.int .i64 5))⟩])
 .ret) .skip))))))
 (.seq (.region [⟨none, some 2, .mv (.const (.int .i64 0))⟩])
 .ret))),
 [.tmp 2]⟩
theorem c_encode_shift : compF P0 pf Go.Proofs.Tryz.f51 = some L_encode_shift := by kernel_rfl
/-- undertow/encode.format -/
abbrev n_encode_format : Nat := 52
def L_encode_format : LFn := ⟨22, (.seq (.region [⟨none, some 2, .mv (.const (.int .i64 0))⟩])
 (.seq (.seq (.region [⟨none, some 3, .mv (.tmp 0)⟩,
  ⟨none, some 4, .call (.func 34) [(.tmp 3)]⟩])
 (.block 0 (.seq (.region [⟨none, some 6, .bin .eql (.tmp 4) (.const (.int .i64 1))⟩,
  ⟨none, some 5, .mv (.tmp 6)⟩])
 (.cond (.tmp 5) (.seq (.region [⟨none, some 2, .mv (.const (.int .i64 4))⟩])
 .ret) (.seq (.region [⟨none, some 8, .bin .eql (.tmp 4) (.const (.int .i64 3))⟩,
  ⟨none, some 7, .mv (.tmp 8)⟩])
 (.cond (.tmp 7) (.seq (.region [⟨none, some 2, .mv (.const (.int .i64 3))⟩])
 .ret) (.seq (.region [⟨none, some 10, .bin .eql (.tmp 4) (.const (.int .i64 5))⟩,
  ⟨none, some 9, .mv (.tmp 10)⟩])
 (.cond (.tmp 9) (.seq (.region [⟨none, some 2, .mv (.const (.int .i64 2))⟩])
 .ret) (.seq (.region [⟨none, some 12, .bin .eql (.tmp 4) (.const (.int .i64 2))⟩,
  ⟨none, some 11, .mv (.tmp 12)⟩])
 (.cond (.tmp 11) (.seq (.seq (.region [⟨none, some 13, .mv (.tmp 0)⟩,
  ⟨none, some 14, .bin .eql (.tmp 13) (.const (.int .i64 3))⟩])
 (.cond (.tmp 14) (.seq (.region [⟨none, some 2, .mv (.const (.int .i64 5))⟩])
 .ret) .skip))
 (.seq (.region [⟨none, some 2, .mv (.const (.int .i64 1))⟩])
 .ret)) (.seq (.region [⟨none, some 16, .bin .eql (.tmp 4) (.const (.int .i64 4))⟩,
  ⟨none, some 15, .mv (.tmp 16)⟩])
 (.cond (.tmp 15) (.seq (.region [⟨none, some 2, .mv (.const (.int .i64 1))⟩])
 .ret) (.seq (.region [⟨none, some 18, .bin .eql (.tmp 4) (.const (.int .i64 6))⟩,
  ⟨none, some 17, .mv (.tmp 18)⟩])
 (.cond (.tmp 17) (.seq (.region [⟨none, some 19, .mv (.tmp 0)⟩,
  ⟨none, some 20, .call (.func 51) [(.tmp 19)]⟩,
  ⟨none, some 21, .bin .eql (.tmp 20) (.const (.int .i64 0))⟩])
 (.cond (.tmp 21) (.seq (.region [⟨none, some 2, .mv (.const (.int .i64 1))⟩])
 .ret) .skip)) .skip))))))))))))))
 (.seq (.region [⟨none, some 2, .mv (.const (.int .i64 0))⟩])
 .ret))),
 [.tmp 2]⟩
theorem c_encode_format : compF P0 pf Go.Proofs.Tryz.f52 = some L_encode_format := by kernel_rfl
/-- undertow/field.Put -/
abbrev n_field_Put : Nat := 53
def L_field_Put : LFn := ⟨63, (.seq (.region [⟨none, some 4, .mv (.const (.int .u32 0))⟩,
  ⟨none, some 5, .mv (.const (.bool false))⟩])
 (.seq (.region [⟨none, some 12, .mv (.tmp 0)⟩,
  ⟨none, some 13, .call (.func 78) [(.tmp 12)]⟩,
  ⟨none, some 11, .mv (.tmp 13)⟩,
  ⟨none, some 14, .ext (.tmp 11) 0⟩,
  ⟨none, some 15, .ext (.tmp 11) 1⟩,
  ⟨none, some 6, .alloc [.int .i64 0, .int .i64 0, .slice none 0 0]⟩,
  ⟨none, none, .store 3 (.tmp 6) (.tmp 14)⟩,
  ⟨none, some 7, .mv (.tmp 15)⟩])
 (.seq (.seq (.region [⟨none, some 16, .mv (.tmp 7)⟩,
  ⟨none, some 17, .un .not (.tmp 16)⟩,
  ⟨none, some 18, .mv (.tmp 17)⟩,
  ⟨some (18, false), some 19, .mv (.tmp 1)⟩,
  ⟨some (18, false), some 20, .convI .u64 (.tmp 19)⟩,
  ⟨some (18, false), some 21, .fad 0 (.tmp 6)⟩,
  ⟨some (18, false), some 22, .load1 (.tmp 21)⟩,
  ⟨some (18, false), some 23, .call (.func 79) [(.tmp 20), (.tmp 22)]⟩,
  ⟨some (18, false), some 24, .mv (.tmp 1)⟩,
  ⟨some (18, false), some 25, .convI .u64 (.tmp 24)⟩,
  ⟨some (18, false), some 26, .bin .neq (.tmp 23) (.tmp 25)⟩,
  ⟨none, some 27, .pick (.tmp 18) (.const (.bool true)) (.tmp 26)⟩,
  ⟨none, some 28, .mv (.tmp 27)⟩,
  ⟨some (28, false), some 29, .mv (.tmp 1)⟩,
  ⟨some (28, false), some 30, .convI .u64 (.tmp 29)⟩,
  ⟨some (28, false), some 31, .fad 1 (.tmp 6)⟩,
  ⟨some (28, false), some 32, .load1 (.tmp 31)⟩,
  ⟨some (28, false), some 33, .call (.func 80) [(.tmp 30), (.tmp 32)]⟩,
  ⟨some (28, false), some 34, .bin .neq (.tmp 33) (.const (.int .u64 0))⟩,
  ⟨none, some 35, .pick (.tmp 28) (.const (.bool true)) (.tmp 34)⟩])
 (.cond (.tmp 35) (.seq (.region [⟨none, some 4, .mv (.const (.int .u32 0))⟩,
  ⟨none, some 5, .mv (.const (.bool false))⟩])
 .ret) .skip))
 (.seq (.region [⟨none, some 8, .mv (.const (.int .u32 0))⟩])
 (.seq (.seq (.region [⟨none, some 36, .fad 2 (.tmp 6)⟩,
  ⟨none, some 37, .load1 (.tmp 36)⟩,
  ⟨none, some 38, .lenS (.tmp 37)⟩,
  ⟨none, some 39, .mv (.const (.int .i64 0))⟩])
 (.block 0 (.loop (.seq (.region [⟨none, some 40, .bin .lss (.tmp 39) (.tmp 38)⟩])
 (.seq (.cond (.tmp 40) .skip (.exit 0))
 (.seq (.block 1 (.seq (.region [⟨none, some 41, .iadS 3 (.tmp 37) (.tmp 39)⟩,
  ⟨none, some 42, .loadN 3 (.tmp 41)⟩,
  ⟨none, some 10, .alloc [.int .i64 0, .int .i64 0, .int .i64 0]⟩,
  ⟨none, none, .store 3 (.tmp 10) (.tmp 42)⟩])
 (.region [⟨none, some 43, .mv (.tmp 8)⟩,
  ⟨none, some 44, .mv (.tmp 1)⟩,
  ⟨none, some 45, .convI .u64 (.tmp 44)⟩,
  ⟨none, some 46, .fad 2 (.tmp 10)⟩,
  ⟨none, some 47, .load1 (.tmp 46)⟩,
  ⟨none, some 48, .bin .shr (.tmp 45) (.tmp 47)⟩,
  ⟨none, some 49, .fad 0 (.tmp 10)⟩,
  ⟨none, some 50, .load1 (.tmp 49)⟩,
  ⟨none, some 51, .fad 1 (.tmp 10)⟩,
  ⟨none, some 52, .load1 (.tmp 51)⟩,
  ⟨none, some 53, .bin .sub (.tmp 50) (.tmp 52)⟩,
  ⟨none, some 54, .bin .add (.tmp 53) (.const (.int .i64 1))⟩,
  ⟨none, some 55, .call (.func 80) [(.tmp 48), (.tmp 54)]⟩,
  ⟨none, some 56, .convI .u32 (.tmp 55)⟩,
  ⟨none, some 57, .fad 1 (.tmp 10)⟩,
  ⟨none, some 58, .load1 (.tmp 57)⟩,
  ⟨none, some 59, .bin .shl (.tmp 56) (.tmp 58)⟩,
  ⟨none, some 60, .bin .or (.tmp 43) (.tmp 59)⟩,
  ⟨none, some 8, .mv (.tmp 60)⟩])))
 (.region [⟨none, some 61, .bin .add (.tmp 39) (.const (.int .i64 1))⟩,
  ⟨none, some 39, .mv (.tmp 61)⟩])))))))
 (.seq (.region [⟨none, some 62, .mv (.tmp 8)⟩,
  ⟨none, some 4, .mv (.tmp 62)⟩,
  ⟨none, some 5, .mv (.const (.bool true))⟩])
 .ret)))))),
 [.tmp 4, .tmp 5]⟩
theorem c_field_Put : compF P0 pf Go.Proofs.Tryz.f53 = some L_field_Put := by kernel_rfl
/-- undertow/ops.Target -/
abbrev n_ops_Target : Nat := 54
def L_ops_Target : LFn := ⟨15, (.seq (.region [⟨none, some 1, .box (.tmp 0)⟩,
  ⟨none, some 2, .mv (.const (.int .i64 0))⟩])
 (.seq (.seq (.region [⟨none, some 3, .fad 0 (.tmp 1)⟩,
  ⟨none, some 4, .load1 (.tmp 3)⟩,
  ⟨none, some 5, .call (.func 34) [(.tmp 4)]⟩])
 (.block 0 (.seq (.seq (.region [⟨none, some 7, .bin .eql (.tmp 5) (.const (.int .i64 0))⟩,
  ⟨none, some 6, .mv (.tmp 7)⟩])
 (.cond (.tmp 6) .skip (.seq (.region [⟨none, some 8, .bin .eql (.tmp 5) (.const (.int .i64 3))⟩,
  ⟨none, some 6, .mv (.tmp 8)⟩])
 (.cond (.tmp 6) .skip (.seq (.region [⟨none, some 9, .bin .eql (.tmp 5) (.const (.int .i64 5))⟩,
  ⟨none, some 6, .mv (.tmp 9)⟩])
 (.cond (.tmp 6) .skip (.seq (.region [⟨none, some 10, .bin .eql (.tmp 5) (.const (.int .i64 8))⟩,
  ⟨none, some 6, .mv (.tmp 10)⟩])
 (.cond (.tmp 6) .skip (.region [⟨none, some 11, .bin .eql (.tmp 5) (.const (.int .i64 9))⟩,
  ⟨none, some 6, .mv (.tmp 11)⟩])))))))))
 (.cond (.tmp 6) (.seq (.region [⟨none, some 2, .mv (.const (.int .i64 0))⟩])
 .ret) .skip))))
 (.seq (.region [⟨none, some 12, .fad 1 (.tmp 1)⟩,
  ⟨none, some 13, .load1 (.tmp 12)⟩,
  ⟨none, some 14, .call (.func 81) [(.tmp 13)]⟩,
  ⟨none, some 2, .mv (.tmp 14)⟩])
 .ret))),
 [.tmp 2]⟩
theorem c_ops_Target : compF P0 pf Go.Proofs.Tryz.f54 = some L_ops_Target := by kernel_rfl
/-- undertow/ops.Sources -/
abbrev n_ops_Sources : Nat := 55
def L_ops_Sources : LFn := ⟨54, (.seq (.region [⟨none, some 1, .box (.tmp 0)⟩,
  ⟨none, some 2, .mv (.const (.slice none 0 0))⟩])
 (.seq (.region [⟨none, some 3, .mv (.const (.slice none 0 0))⟩])
 (.seq (.seq (.region [⟨none, some 7, .fad 0 (.tmp 1)⟩,
  ⟨none, some 8, .load1 (.tmp 7)⟩,
  ⟨none, some 9, .call (.func 34) [(.tmp 8)]⟩])
 (.block 0 (.seq (.seq (.region [⟨none, some 11, .bin .eql (.tmp 9) (.const (.int .i64 3))⟩,
  ⟨none, some 10, .mv (.tmp 11)⟩])
 (.cond (.tmp 10) .skip (.seq (.region [⟨none, some 12, .bin .eql (.tmp 9) (.const (.int .i64 5))⟩,
  ⟨none, some 10, .mv (.tmp 12)⟩])
 (.cond (.tmp 10) .skip (.seq (.region [⟨none, some 13, .bin .eql (.tmp 9) (.const (.int .i64 7))⟩,
  ⟨none, some 10, .mv (.tmp 13)⟩])
 (.cond (.tmp 10) .skip (.seq (.region [⟨none, some 14, .bin .eql (.tmp 9) (.const (.int .i64 11))⟩,
  ⟨none, some 10, .mv (.tmp 14)⟩])
 (.cond (.tmp 10) .skip (.region [⟨none, some 15, .bin .eql (.tmp 9) (.const (.int .i64 12))⟩,
  ⟨none, some 10, .mv (.tmp 15)⟩])))))))))
 (.cond (.tmp 10) (.region [⟨none, some 16, .fad 2 (.tmp 1)⟩,
  ⟨none, some 17, .load1 (.tmp 16)⟩,
  ⟨none, some 18, .call (.func 81) [(.tmp 17)]⟩,
  ⟨none, some 19, .fad 3 (.tmp 1)⟩,
  ⟨none, some 20, .load1 (.tmp 19)⟩,
  ⟨none, some 21, .call (.func 81) [(.tmp 20)]⟩,
  ⟨none, some 22, .row 1 2 (zeroRow [.int .i64 0] 2) [(0, 1, (.tmp 18)), (1, 1, (.tmp 21))]⟩,
  ⟨none, some 3, .mv (.tmp 22)⟩]) (.seq (.seq (.region [⟨none, some 24, .bin .eql (.tmp 9) (.const (.int .i64 4))⟩,
  ⟨none, some 23, .mv (.tmp 24)⟩])
 (.cond (.tmp 23) .skip (.seq (.region [⟨none, some 25, .bin .eql (.tmp 9) (.const (.int .i64 6))⟩,
  ⟨none, some 23, .mv (.tmp 25)⟩])
 (.cond (.tmp 23) .skip (.region [⟨none, some 26, .bin .eql (.tmp 9) (.const (.int .i64 10))⟩,
  ⟨none, some 23, .mv (.tmp 26)⟩])))))
 (.cond (.tmp 23) (.region [⟨none, some 27, .fad 2 (.tmp 1)⟩,
  ⟨none, some 28, .load1 (.tmp 27)⟩,
  ⟨none, some 29, .call (.func 81) [(.tmp 28)]⟩,
  ⟨none, some 30, .row 1 1 (zeroRow [.int .i64 0] 1) [(0, 1, (.tmp 29))]⟩,
  ⟨none, some 3, .mv (.tmp 30)⟩]) (.seq (.region [⟨none, some 32, .bin .eql (.tmp 9) (.const (.int .i64 2))⟩,
  ⟨none, some 31, .mv (.tmp 32)⟩])
 (.cond (.tmp 31) (.seq (.region [⟨none, some 33, .fad 0 (.tmp 1)⟩,
  ⟨none, some 34, .load1 (.tmp 33)⟩,
  ⟨none, some 35, .bin .eql (.tmp 34) (.const (.int .i64 4))⟩])
 (.cond (.tmp 35) (.region [⟨none, some 36, .fad 2 (.tmp 1)⟩,
  ⟨none, some 37, .load1 (.tmp 36)⟩,
  ⟨none, some 38, .call (.func 81) [(.tmp 37)]⟩,
  ⟨none, some 39, .row 1 1 (zeroRow [.int .i64 0] 1) [(0, 1, (.tmp 38))]⟩,
  ⟨none, some 3, .mv (.tmp 39)⟩]) .skip)) .skip))))))))
 (.seq (.region [⟨none, some 4, .mv (.const (.slice none 0 0))⟩])
 (.seq (.seq (.region [⟨none, some 40, .mv (.tmp 3)⟩,
  ⟨none, some 41, .lenS (.tmp 40)⟩,
  ⟨none, some 42, .mv (.const (.int .i64 0))⟩])
 (.block 1 (.loop (.seq (.region [⟨none, some 43, .bin .lss (.tmp 42) (.tmp 41)⟩])
 (.seq (.cond (.tmp 43) .skip (.exit 1))
 (.seq (.block 2 (.seq (.region [⟨none, some 44, .iadS 1 (.tmp 40) (.tmp 42)⟩,
  ⟨none, some 45, .load1 (.tmp 44)⟩,
  ⟨none, some 6, .mv (.tmp 45)⟩])
 (.seq (.region [⟨none, some 46, .mv (.tmp 6)⟩,
  ⟨none, some 47, .bin .neq (.tmp 46) (.const (.int .i64 0))⟩])
 (.cond (.tmp 47) (.region [⟨none, some 48, .mv (.tmp 4)⟩,
  ⟨none, some 49, .mv (.tmp 6)⟩,
  ⟨none, some 50, .rowM 1 (zeroRow [.int .i64 0] 1) [(0, 1, (.tmp 49))]⟩,
  ⟨none, some 51, .app 1 8 (.tmp 48) (.tmp 50)⟩,
  ⟨none, some 4, .mv (.tmp 51)⟩]) .skip))))
 (.region [⟨none, some 52, .bin .add (.tmp 42) (.const (.int .i64 1))⟩,
  ⟨none, some 42, .mv (.tmp 52)⟩])))))))
 (.seq (.region [⟨none, some 53, .mv (.tmp 4)⟩,
  ⟨none, some 2, .mv (.tmp 53)⟩])
 .ret)))))),
 [.tmp 2]⟩
theorem c_ops_Sources : compF P0 pf Go.Proofs.Tryz.f55 = some L_ops_Sources := by kernel_rfl
/-- undertow/show.reg -/
abbrev n_show_reg : Nat := 56
def L_show_reg : LFn := ⟨6, (.seq (.region [⟨none, some 2, .mv (.const (.string ⟨#[]⟩))⟩])
 (.seq (.region [⟨none, some 3, .mv (.tmp 0)⟩,
  ⟨none, some 4, .call (.func 82) [(.tmp 3)]⟩,
  ⟨none, some 5, .bin .add (.const (.string ⟨#[120]⟩)) (.tmp 4)⟩,
  ⟨none, some 2, .mv (.tmp 5)⟩])
 .ret)),
 [.tmp 2]⟩
theorem c_show_reg : compF P0 pf Go.Proofs.Tryz.f56 = some L_show_reg := by kernel_rfl
/-- undertow/show.set -/
abbrev n_show_set : Nat := 57
def L_show_set : LFn := ⟨23, (.seq (.region [⟨none, some 2, .mv (.const (.string ⟨#[]⟩))⟩])
 (.seq (.region [⟨none, some 3, .mv (.const (.string ⟨#[]⟩))⟩])
 (.seq (.seq (.region [⟨none, some 5, .mv (.const (.int .i64 0))⟩])
 (.block 0 (.loop (.seq (.region [⟨none, some 6, .bin .lss (.tmp 5) (.const (.int .i64 4))⟩])
 (.seq (.cond (.tmp 6) .skip (.exit 0))
 (.seq (.block 1 (.seq (.region [⟨none, some 7, .mv (.tmp 5)⟩,
  ⟨none, some 4, .mv (.tmp 7)⟩])
 (.seq (.region [⟨none, some 8, .mv (.tmp 0)⟩,
  ⟨none, some 9, .mv (.tmp 4)⟩,
  ⟨none, some 10, .bin .shr (.const (.int .i64 8)) (.tmp 9)⟩,
  ⟨none, some 11, .bin .and (.tmp 8) (.tmp 10)⟩,
  ⟨none, some 12, .bin .neq (.tmp 11) (.const (.int .i64 0))⟩])
 (.cond (.tmp 12) (.region [⟨none, some 13, .mv (.tmp 3)⟩,
  ⟨none, some 14, .mv (.tmp 4)⟩,
  ⟨none, some 15, .mv (.tmp 4)⟩,
  ⟨none, some 16, .bin .add (.tmp 15) (.const (.int .i64 1))⟩,
  ⟨none, some 17, .slcT (.const (.string ⟨#[105, 111, 114, 119]⟩)) (some (.tmp 14)) (some (.tmp 16))⟩,
  ⟨none, some 18, .bin .add (.tmp 13) (.tmp 17)⟩,
  ⟨none, some 3, .mv (.tmp 18)⟩]) .skip))))
 (.region [⟨none, some 19, .bin .add (.tmp 5) (.const (.int .i64 1))⟩,
  ⟨none, some 5, .mv (.tmp 19)⟩])))))))
 (.seq (.seq (.region [⟨none, some 20, .mv (.tmp 3)⟩,
  ⟨none, some 21, .bin .eql (.tmp 20) (.const (.string ⟨#[]⟩))⟩])
 (.cond (.tmp 21) (.seq (.region [⟨none, some 2, .mv (.const (.string ⟨#[48]⟩))⟩])
 .ret) .skip))
 (.seq (.region [⟨none, some 22, .mv (.tmp 3)⟩,
  ⟨none, some 2, .mv (.tmp 22)⟩])
 .ret))))),
 [.tmp 2]⟩
theorem c_show_set : compF P0 pf Go.Proofs.Tryz.f57 = some L_show_set := by kernel_rfl
/-- undertow/ops.Name -/
abbrev n_ops_Name : Nat := 58
def L_ops_Name : LFn := ⟨9, (.seq (.region [⟨none, some 2, .mv (.const (.string ⟨#[]⟩))⟩])
 (.seq (.seq (.region [⟨none, some 3, .mv (.tmp 0)⟩,
  ⟨none, some 4, .call (.func 34) [(.tmp 3)]⟩,
  ⟨none, some 5, .bin .eql (.tmp 4) (.const (.int .i64 0))⟩])
 (.cond (.tmp 5) (.seq (.region [⟨none, some 2, .mv (.const (.string ⟨#[]⟩))⟩])
 .ret) .skip))
 (.seq (.region [⟨none, some 6, .call (.func 83) []⟩,
  ⟨none, some 7, .mv (.tmp 0)⟩,
  ⟨none, some 8, .ix1 76 (.tmp 6) (.tmp 7)⟩,
  ⟨none, some 2, .mv (.tmp 8)⟩])
 .ret))),
 [.tmp 2]⟩
theorem c_ops_Name : compF P0 pf Go.Proofs.Tryz.f58 = some L_ops_Name := by kernel_rfl
/-- strings.CutSuffix -/
abbrev n_strings_CutSuffix : Nat := 63
def L_strings_CutSuffix : LFn := ⟨11, (.seq (.region [⟨none, some 4, .mv (.const (.string ⟨#[]⟩))⟩,
  ⟨none, some 5, .mv (.const (.bool false))⟩])
 (.seq (.region [⟨none, some 6, .mv (.tmp 0)⟩,
  ⟨none, some 7, .mv (.tmp 1)⟩,
  ⟨none, some 8, .call (.func 87) [(.tmp 6), (.tmp 7)]⟩,
  ⟨none, some 9, .ext (.tmp 8) 0⟩,
  ⟨none, some 10, .ext (.tmp 8) 1⟩,
  ⟨none, some 4, .mv (.tmp 9)⟩,
  ⟨none, some 5, .mv (.tmp 10)⟩])
 .ret)),
 [.tmp 4, .tmp 5]⟩
theorem c_strings_CutSuffix : compF P0 pf Go.Proofs.Tryz.f63 = some L_strings_CutSuffix := by kernel_rfl
/-- undertow/ops.ByName -/
abbrev n_ops_ByName : Nat := 64
def L_ops_ByName : LFn := ⟨15, (.seq (.region [⟨none, some 2, .mv (.const (.int .i64 0))⟩])
 (.seq (.seq (.region [⟨none, some 5, .call (.func 83) []⟩,
  ⟨none, some 6, .mv (.const (.int .i64 0))⟩])
 (.block 0 (.loop (.seq (.region [⟨none, some 7, .bin .lss (.tmp 6) (.const (.int .i64 76))⟩])
 (.seq (.cond (.tmp 7) .skip (.exit 0))
 (.seq (.block 1 (.seq (.region [⟨none, some 8, .mv (.tmp 6)⟩,
  ⟨none, some 9, .ix1 76 (.tmp 5) (.tmp 6)⟩,
  ⟨none, some 3, .mv (.tmp 8)⟩,
  ⟨none, some 4, .mv (.tmp 9)⟩])
 (.seq (.region [⟨none, some 10, .mv (.tmp 4)⟩,
  ⟨none, some 11, .mv (.tmp 0)⟩,
  ⟨none, some 12, .bin .eql (.tmp 10) (.tmp 11)⟩])
 (.cond (.tmp 12) (.seq (.region [⟨none, some 13, .mv (.tmp 3)⟩,
  ⟨none, some 2, .mv (.tmp 13)⟩])
 .ret) .skip))))
 (.region [⟨none, some 14, .bin .add (.tmp 6) (.const (.int .i64 1))⟩,
  ⟨none, some 6, .mv (.tmp 14)⟩])))))))
 (.seq (.region [⟨none, some 2, .mv (.const (.int .i64 0))⟩])
 .ret))),
 [.tmp 2]⟩
theorem c_ops_ByName : compF P0 pf Go.Proofs.Tryz.f64 = some L_ops_ByName := by kernel_rfl
/-- strings.HasPrefix -/
abbrev n_strings_HasPrefix : Nat := 65
def L_strings_HasPrefix : LFn := ⟨8, (.seq (.region [⟨none, some 4, .mv (.const (.bool false))⟩])
 (.seq (.region [⟨none, some 5, .mv (.tmp 0)⟩,
  ⟨none, some 6, .mv (.tmp 1)⟩,
  ⟨none, some 7, .call (.func 77) [(.tmp 5), (.tmp 6)]⟩,
  ⟨none, some 4, .mv (.tmp 7)⟩])
 .ret)),
 [.tmp 4]⟩
theorem c_strings_HasPrefix : compF P0 pf Go.Proofs.Tryz.f65 = some L_strings_HasPrefix := by kernel_rfl
/-- internal/stringslite.TrimSuffix -/
abbrev n_stringslite_TrimSuffix : Nat := 66
def L_stringslite_TrimSuffix : LFn := ⟨16, (.seq (.region [⟨none, some 4, .mv (.const (.string ⟨#[]⟩))⟩])
 (.seq (.seq (.region [⟨none, some 5, .mv (.tmp 0)⟩,
  ⟨none, some 6, .mv (.tmp 1)⟩,
  ⟨none, some 7, .call (.func 88) [(.tmp 5), (.tmp 6)]⟩])
 (.cond (.tmp 7) (.seq (.region [⟨none, some 8, .mv (.tmp 0)⟩,
  ⟨none, some 9, .mv (.tmp 0)⟩,
  ⟨none, some 10, .lenT (.tmp 9)⟩,
  ⟨none, some 11, .mv (.tmp 1)⟩,
  ⟨none, some 12, .lenT (.tmp 11)⟩,
  ⟨none, some 13, .bin .sub (.tmp 10) (.tmp 12)⟩,
  ⟨none, some 14, .slcT (.tmp 8) none (some (.tmp 13))⟩,
  ⟨none, some 4, .mv (.tmp 14)⟩])
 .ret) .skip))
 (.seq (.region [⟨none, some 15, .mv (.tmp 0)⟩,
  ⟨none, some 4, .mv (.tmp 15)⟩])
 .ret))),
 [.tmp 4]⟩
theorem c_stringslite_TrimSuffix : compF P0 pf Go.Proofs.Tryz.f66 = some L_stringslite_TrimSuffix := by kernel_rfl
/-- internal/stringslite.HasPrefix -/
abbrev n_stringslite_HasPrefix : Nat := 77
def L_stringslite_HasPrefix : LFn := ⟨18, (.seq (.region [⟨none, some 4, .mv (.const (.bool false))⟩])
 (.seq (.region [⟨none, some 5, .mv (.tmp 0)⟩,
  ⟨none, some 6, .lenT (.tmp 5)⟩,
  ⟨none, some 7, .mv (.tmp 1)⟩,
  ⟨none, some 8, .lenT (.tmp 7)⟩,
  ⟨none, some 9, .bin .geq (.tmp 6) (.tmp 8)⟩,
  ⟨none, some 10, .mv (.tmp 9)⟩,
  ⟨some (10, true), some 11, .mv (.tmp 0)⟩,
  ⟨some (10, true), some 12, .mv (.tmp 1)⟩,
  ⟨some (10, true), some 13, .lenT (.tmp 12)⟩,
  ⟨some (10, true), some 14, .slcT (.tmp 11) none (some (.tmp 13))⟩,
  ⟨some (10, true), some 15, .mv (.tmp 1)⟩,
  ⟨some (10, true), some 16, .bin .eql (.tmp 14) (.tmp 15)⟩,
  ⟨none, some 17, .pick (.tmp 10) (.tmp 16) (.const (.bool false))⟩,
  ⟨none, some 4, .mv (.tmp 17)⟩])
 .ret)),
 [.tmp 4]⟩
theorem c_stringslite_HasPrefix : compF P0 pf Go.Proofs.Tryz.f77 = some L_stringslite_HasPrefix := by kernel_rfl
/-- undertow/field.of -/
abbrev n_field_of : Nat := 78
def L_field_of : LFn := ⟨14, (.seq (.region [⟨none, some 2, .alloc [.int .i64 0, .int .i64 0, .slice none 0 0]⟩,
  ⟨none, some 3, .mv (.const (.bool false))⟩])
 (.seq (.seq (.region [⟨none, some 4, .mv (.tmp 0)⟩,
  ⟨none, some 5, .bin .lss (.tmp 4) (.const (.int .i64 1))⟩,
  ⟨none, some 6, .mv (.tmp 5)⟩,
  ⟨some (6, false), some 7, .mv (.tmp 0)⟩,
  ⟨some (6, false), some 8, .bin .gtr (.tmp 7) (.const (.int .i64 5))⟩,
  ⟨none, some 9, .pick (.tmp 6) (.const (.bool true)) (.tmp 8)⟩])
 (.cond (.tmp 9) (.seq (.region [⟨none, some 10, .build [.int .i64 0, .int .i64 0, .slice none 0 0] []⟩,
  ⟨none, none, .store 3 (.tmp 2) (.tmp 10)⟩,
  ⟨none, some 3, .mv (.const (.bool false))⟩])
 .ret) .skip))
 (.seq (.region [⟨none, some 11, .call (.func 99) []⟩,
  ⟨none, some 12, .mv (.tmp 0)⟩,
  ⟨none, some 13, .ixN 6 3 (.tmp 11) (.tmp 12)⟩,
  ⟨none, none, .store 3 (.tmp 2) (.tmp 13)⟩,
  ⟨none, some 3, .mv (.const (.bool true))⟩])
 .ret))),
 [.cellN 2 3, .tmp 3]⟩
theorem c_field_of : compF P0 pf Go.Proofs.Tryz.f78 = some L_field_of := by kernel_rfl
/-- undertow/word.Sext -/
abbrev n_word_Sext : Nat := 79
def L_word_Sext : LFn := ⟨23, (.seq (.region [⟨none, some 4, .mv (.const (.int .u64 0))⟩])
 (.seq (.seq (.region [⟨none, some 5, .mv (.tmp 1)⟩,
  ⟨none, some 6, .bin .lss (.tmp 5) (.const (.int .i64 1))⟩,
  ⟨none, some 7, .mv (.tmp 6)⟩,
  ⟨some (7, false), some 8, .mv (.tmp 1)⟩,
  ⟨some (7, false), some 9, .bin .geq (.tmp 8) (.const (.int .i64 64))⟩,
  ⟨none, some 10, .pick (.tmp 7) (.const (.bool true)) (.tmp 9)⟩])
 (.cond (.tmp 10) (.seq (.region [⟨none, some 11, .mv (.tmp 0)⟩,
  ⟨none, some 12, .mv (.tmp 1)⟩,
  ⟨none, some 13, .call (.func 80) [(.tmp 11), (.tmp 12)]⟩,
  ⟨none, some 4, .mv (.tmp 13)⟩])
 .ret) .skip))
 (.seq (.region [⟨none, some 14, .mv (.tmp 0)⟩,
  ⟨none, some 15, .mv (.tmp 1)⟩,
  ⟨none, some 16, .bin .sub (.const (.int .i64 64)) (.tmp 15)⟩,
  ⟨none, some 17, .bin .shl (.tmp 14) (.tmp 16)⟩,
  ⟨none, some 18, .convI .i64 (.tmp 17)⟩,
  ⟨none, some 19, .mv (.tmp 1)⟩,
  ⟨none, some 20, .bin .sub (.const (.int .i64 64)) (.tmp 19)⟩,
  ⟨none, some 21, .bin .shr (.tmp 18) (.tmp 20)⟩,
  ⟨none, some 22, .convI .u64 (.tmp 21)⟩,
  ⟨none, some 4, .mv (.tmp 22)⟩])
 .ret))),
 [.tmp 4]⟩
theorem c_word_Sext : compF P0 pf Go.Proofs.Tryz.f79 = some L_word_Sext := by kernel_rfl
/-- undertow/word.Zext -/
abbrev n_word_Zext : Nat := 80
def L_word_Zext : LFn := ⟨17, (.seq (.region [⟨none, some 4, .mv (.const (.int .u64 0))⟩])
 (.seq (.block 0 (.seq (.region [⟨none, some 6, .mv (.tmp 1)⟩,
  ⟨none, some 7, .bin .lss (.tmp 6) (.const (.int .i64 1))⟩,
  ⟨none, some 5, .mv (.tmp 7)⟩])
 (.cond (.tmp 5) (.seq (.region [⟨none, some 4, .mv (.const (.int .u64 0))⟩])
 .ret) (.seq (.region [⟨none, some 9, .mv (.tmp 1)⟩,
  ⟨none, some 10, .bin .geq (.tmp 9) (.const (.int .i64 64))⟩,
  ⟨none, some 8, .mv (.tmp 10)⟩])
 (.cond (.tmp 8) (.seq (.region [⟨none, some 11, .mv (.tmp 0)⟩,
  ⟨none, some 4, .mv (.tmp 11)⟩])
 .ret) .skip)))))
 (.seq (.region [⟨none, some 12, .mv (.tmp 0)⟩,
  ⟨none, some 13, .mv (.tmp 1)⟩,
  ⟨none, some 14, .bin .shl (.const (.int .u64 1)) (.tmp 13)⟩,
  ⟨none, some 15, .bin .sub (.tmp 14) (.const (.int .u64 1))⟩,
  ⟨none, some 16, .bin .and (.tmp 12) (.tmp 15)⟩,
  ⟨none, some 4, .mv (.tmp 16)⟩])
 .ret))),
 [.tmp 4]⟩
theorem c_word_Zext : compF P0 pf Go.Proofs.Tryz.f80 = some L_word_Zext := by kernel_rfl
/-- undertow/ops.register -/
abbrev n_ops_register : Nat := 81
def L_ops_register : LFn := ⟨10, (.seq (.region [⟨none, some 2, .mv (.const (.int .i64 0))⟩])
 (.seq (.seq (.region [⟨none, some 3, .mv (.tmp 0)⟩,
  ⟨none, some 4, .bin .lss (.tmp 3) (.const (.int .i64 0))⟩,
  ⟨none, some 5, .mv (.tmp 4)⟩,
  ⟨some (5, false), some 6, .mv (.tmp 0)⟩,
  ⟨some (5, false), some 7, .bin .gtr (.tmp 6) (.const (.int .i64 31))⟩,
  ⟨none, some 8, .pick (.tmp 5) (.const (.bool true)) (.tmp 7)⟩])
 (.cond (.tmp 8) (.seq (.region [⟨none, some 2, .mv (.const (.int .i64 0))⟩])
 .ret) .skip))
 (.seq (.region [⟨none, some 9, .mv (.tmp 0)⟩,
  ⟨none, some 2, .mv (.tmp 9)⟩])
 .ret))),
 [.tmp 2]⟩
theorem c_ops_register : compF P0 pf Go.Proofs.Tryz.f81 = some L_ops_register := by kernel_rfl
/-- undertow/ops.names -/
abbrev n_ops_names : Nat := 83
def L_ops_names : LFn := ⟨2, (.seq (.region [⟨none, some 0, .alloc [.string ⟨#[]⟩, .string ⟨#[]⟩, .string ⟨#[]⟩, .string ⟨#[]⟩, .string ⟨#[]⟩, .string ⟨#[]⟩, .string ⟨#[]⟩, .string ⟨#[]⟩, .string ⟨#[]⟩, .string ⟨#[]⟩, .string ⟨#[]⟩, .string ⟨#[]⟩, .string ⟨#[]⟩, .string ⟨#[]⟩, .string ⟨#[]⟩, .string ⟨#[]⟩, .string ⟨#[]⟩, .string ⟨#[]⟩, .string ⟨#[]⟩, .string ⟨#[]⟩, .string ⟨#[]⟩, .string ⟨#[]⟩, .string ⟨#[]⟩, .string ⟨#[]⟩, .string ⟨#[]⟩, .string ⟨#[]⟩, .string ⟨#[]⟩, .string ⟨#[]⟩, .string ⟨#[]⟩, .string ⟨#[]⟩, .string ⟨#[]⟩, .string ⟨#[]⟩, .string ⟨#[]⟩, .string ⟨#[]⟩, .string ⟨#[]⟩, .string ⟨#[]⟩, .string ⟨#[]⟩, .string ⟨#[]⟩, .string ⟨#[]⟩, .string ⟨#[]⟩, .string ⟨#[]⟩, .string ⟨#[]⟩, .string ⟨#[]⟩, .string ⟨#[]⟩, .string ⟨#[]⟩, .string ⟨#[]⟩, .string ⟨#[]⟩, .string ⟨#[]⟩, .string ⟨#[]⟩, .string ⟨#[]⟩, .string ⟨#[]⟩, .string ⟨#[]⟩, .string ⟨#[]⟩, .string ⟨#[]⟩, .string ⟨#[]⟩, .string ⟨#[]⟩, .string ⟨#[]⟩, .string ⟨#[]⟩, .string ⟨#[]⟩, .string ⟨#[]⟩, .string ⟨#[]⟩, .string ⟨#[]⟩, .string ⟨#[]⟩, .string ⟨#[]⟩, .string ⟨#[]⟩, .string ⟨#[]⟩, .string ⟨#[]⟩, .string ⟨#[]⟩, .string ⟨#[]⟩, .string ⟨#[]⟩, .string ⟨#[]⟩, .string ⟨#[]⟩, .string ⟨#[]⟩, .string ⟨#[]⟩, .string ⟨#[]⟩, .string ⟨#[]⟩]⟩])
 (.seq (.region [⟨none, some 1, .build [.string ⟨#[]⟩, .string ⟨#[]⟩, .string ⟨#[]⟩, .string ⟨#[]⟩, .string ⟨#[]⟩, .string ⟨#[]⟩, .string ⟨#[]⟩, .string ⟨#[]⟩, .string ⟨#[]⟩, .string ⟨#[]⟩, .string ⟨#[]⟩, .string ⟨#[]⟩, .string ⟨#[]⟩, .string ⟨#[]⟩, .string ⟨#[]⟩, .string ⟨#[]⟩, .string ⟨#[]⟩, .string ⟨#[]⟩, .string ⟨#[]⟩, .string ⟨#[]⟩, .string ⟨#[]⟩, .string ⟨#[]⟩, .string ⟨#[]⟩, .string ⟨#[]⟩, .string ⟨#[]⟩, .string ⟨#[]⟩, .string ⟨#[]⟩, .string ⟨#[]⟩, .string ⟨#[]⟩, .string ⟨#[]⟩, .string ⟨#[]⟩, .string ⟨#[]⟩, .string ⟨#[]⟩, .string ⟨#[]⟩, .string ⟨#[]⟩, .string ⟨#[]⟩, .string ⟨#[]⟩, .string ⟨#[]⟩, .string ⟨#[]⟩, .string ⟨#[]⟩, .string ⟨#[]⟩, .string ⟨#[]⟩, .string ⟨#[]⟩, .string ⟨#[]⟩, .string ⟨#[]⟩, .string ⟨#[]⟩, .string ⟨#[]⟩, .string ⟨#[]⟩, .string ⟨#[]⟩, .string ⟨#[]⟩, .string ⟨#[]⟩, .string ⟨#[]⟩, .string ⟨#[]⟩, .string ⟨#[]⟩, .string ⟨#[]⟩, .string ⟨#[]⟩, .string ⟨#[]⟩, .string ⟨#[]⟩, .string ⟨#[]⟩, .string ⟨#[]⟩, .string ⟨#[]⟩, .string ⟨#[]⟩, .string ⟨#[]⟩, .string ⟨#[]⟩, .string ⟨#[]⟩, .string ⟨#[]⟩, .string ⟨#[]⟩, .string ⟨#[]⟩, .string ⟨#[]⟩, .string ⟨#[]⟩, .string ⟨#[]⟩, .string ⟨#[]⟩, .string ⟨#[]⟩, .string ⟨#[]⟩, .string ⟨#[]⟩, .string ⟨#[]⟩] [(0, 1, (.const (.string ⟨#[]⟩))), (1, 1, (.const (.string ⟨#[108, 117, 105]⟩))), (2, 1, (.const (.string ⟨#[97, 117, 105, 112, 99]⟩))), (3, 1, (.const (.string ⟨#[106, 97, 108]⟩))), (4, 1, (.const (.string ⟨#[106, 97, 108, 114]⟩))), (5, 1, (.const (.string ⟨#[98, 101, 113]⟩))), (6, 1, (.const (.string ⟨#[98, 110, 101]⟩))), (7, 1, (.const (.string ⟨#[98, 108, 116]⟩))), (8, 1, (.const (.string ⟨#[98, 103, 101]⟩))), (9, 1, (.const (.string ⟨#[98, 108, 116, 117]⟩))), (10, 1, (.const (.string ⟨#[98, 103, 101, 117]⟩))), (11, 1, (.const (.string ⟨#[108, 98]⟩))), (12, 1, (.const (.string ⟨#[108, 104]⟩))), (13, 1, (.const (.string ⟨#[108, 119]⟩))), (14, 1, (.const (.string ⟨#[108, 100]⟩))), (15, 1, (.const (.string ⟨#[108, 98, 117]⟩))), (16, 1, (.const (.string ⟨#[108, 104, 117]⟩))), (17, 1, (.const (.string ⟨#[108, 119, 117]⟩))), (18, 1, (.const (.string ⟨#[115, 98]⟩))), (19, 1, (.const (.string ⟨#[115, 104]⟩))), (20, 1, (.const (.string ⟨#[115, 119]⟩))), (21, 1, (.const (.string ⟨#[115, 100]⟩))), (22, 1, (.const (.string ⟨#[97, 100, 100, 105]⟩))), (23, 1, (.const (.string ⟨#[115, 108, 116, 105]⟩))), (24, 1, (.const (.string ⟨#[115, 108, 116, 105, 117]⟩))), (25, 1, (.const (.string ⟨#[120, 111, 114, 105]⟩))), (26, 1, (.const (.string ⟨#[111, 114, 105]⟩))), (27, 1, (.const (.string ⟨#[97, 110, 100, 105]⟩))), (28, 1, (.const (.string ⟨#[115, 108, 108, 105]⟩))), (29, 1, (.const (.string ⟨#[115, 114, 108, 105]⟩))), (30, 1, (.const (.string ⟨#[115, 114, 97, 105]⟩))), (31, 1, (.const (.string ⟨#[97, 100, 100, 105, 119]⟩))), (32, 1, (.const (.string ⟨#[115, 108, 108, 105, 119]⟩))), (33, 1, (.const (.string ⟨#[115, 114, 108, 105, 119]⟩))), (34, 1, (.const (.string ⟨#[115, 114, 97, 105, 119]⟩))), (35, 1, (.const (.string ⟨#[97, 100, 100]⟩))), (36, 1, (.const (.string ⟨#[115, 117, 98]⟩))), (37, 1, (.const (.string ⟨#[115, 108, 108]⟩))), (38, 1, (.const (.string ⟨#[115, 108, 116]⟩))), (39, 1, (.const (.string ⟨#[115, 108, 116, 117]⟩))), (40, 1, (.const (.string ⟨#[120, 111, 114]⟩))), (41, 1, (.const (.string ⟨#[115, 114, 108]⟩))), (42, 1, (.const (.string ⟨#[115, 114, 97]⟩))), (43, 1, (.const (.string ⟨#[111, 114]⟩))), (44, 1, (.const (.string ⟨#[97, 110, 100]⟩))), (45, 1, (.const (.string ⟨#[97, 100, 100, 119]⟩))), (46, 1, (.const (.string ⟨#[115, 117, 98, 119]⟩))), (47, 1, (.const (.string ⟨#[115, 108, 108, 119]⟩))), (48, 1, (.const (.string ⟨#[115, 114, 108, 119]⟩))), (49, 1, (.const (.string ⟨#[115, 114, 97, 119]⟩))), (50, 1, (.const (.string ⟨#[102, 101, 110, 99, 101]⟩))), (51, 1, (.const (.string ⟨#[102, 101, 110, 99, 101, 46, 116, 115, 111]⟩))), (52, 1, (.const (.string ⟨#[101, 99, 97, 108, 108]⟩))), (53, 1, (.const (.string ⟨#[101, 98, 114, 101, 97, 107]⟩))), (54, 1, (.const (.string ⟨#[108, 114, 46, 119]⟩))), (55, 1, (.const (.string ⟨#[108, 114, 46, 100]⟩))), (56, 1, (.const (.string ⟨#[115, 99, 46, 119]⟩))), (57, 1, (.const (.string ⟨#[115, 99, 46, 100]⟩))), (58, 1, (.const (.string ⟨#[97, 109, 111, 115, 119, 97, 112, 46, 119]⟩))), (59, 1, (.const (.string ⟨#[97, 109, 111, 97, 100, 100, 46, 119]⟩))), (60, 1, (.const (.string ⟨#[97, 109, 111, 120, 111, 114, 46, 119]⟩))), (61, 1, (.const (.string ⟨#[97, 109, 111, 97, 110, 100, 46, 119]⟩))), (62, 1, (.const (.string ⟨#[97, 109, 111, 111, 114, 46, 119]⟩))), (63, 1, (.const (.string ⟨#[97, 109, 111, 109, 105, 110, 46, 119]⟩))), (64, 1, (.const (.string ⟨#[97, 109, 111, 109, 97, 120, 46, 119]⟩))), (65, 1, (.const (.string ⟨#[97, 109, 111, 109, 105, 110, 117, 46, 119]⟩))), (66, 1, (.const (.string ⟨#[97, 109, 111, 109, 97, 120, 117, 46, 119]⟩))), (67, 1, (.const (.string ⟨#[97, 109, 111, 115, 119, 97, 112, 46, 100]⟩))), (68, 1, (.const (.string ⟨#[97, 109, 111, 97, 100, 100, 46, 100]⟩))), (69, 1, (.const (.string ⟨#[97, 109, 111, 120, 111, 114, 46, 100]⟩))), (70, 1, (.const (.string ⟨#[97, 109, 111, 97, 110, 100, 46, 100]⟩))), (71, 1, (.const (.string ⟨#[97, 109, 111, 111, 114, 46, 100]⟩))), (72, 1, (.const (.string ⟨#[97, 109, 111, 109, 105, 110, 46, 100]⟩))), (73, 1, (.const (.string ⟨#[97, 109, 111, 109, 97, 120, 46, 100]⟩))), (74, 1, (.const (.string ⟨#[97, 109, 111, 109, 105, 110, 117, 46, 100]⟩))), (75, 1, (.const (.string ⟨#[97, 109, 111, 109, 97, 120, 117, 46, 100]⟩)))]⟩,
  ⟨none, none, .store 76 (.tmp 0) (.tmp 1)⟩])
 .ret)),
 [.cellN 0 76]⟩
theorem c_ops_names : compF P0 pf Go.Proofs.Tryz.f83 = some L_ops_names := by kernel_rfl
/-- internal/stringslite.CutSuffix -/
abbrev n_stringslite_CutSuffix : Nat := 87
def L_stringslite_CutSuffix : LFn := ⟨18, (.seq (.region [⟨none, some 4, .mv (.const (.string ⟨#[]⟩))⟩,
  ⟨none, some 5, .mv (.const (.bool false))⟩])
 (.seq (.seq (.region [⟨none, some 6, .mv (.tmp 0)⟩,
  ⟨none, some 7, .mv (.tmp 1)⟩,
  ⟨none, some 8, .call (.func 88) [(.tmp 6), (.tmp 7)]⟩,
  ⟨none, some 9, .un .not (.tmp 8)⟩])
 (.cond (.tmp 9) (.seq (.region [⟨none, some 10, .mv (.tmp 0)⟩,
  ⟨none, some 4, .mv (.tmp 10)⟩,
  ⟨none, some 5, .mv (.const (.bool false))⟩])
 .ret) .skip))
 (.seq (.region [⟨none, some 11, .mv (.tmp 0)⟩,
  ⟨none, some 12, .mv (.tmp 0)⟩,
  ⟨none, some 13, .lenT (.tmp 12)⟩,
  ⟨none, some 14, .mv (.tmp 1)⟩,
  ⟨none, some 15, .lenT (.tmp 14)⟩,
  ⟨none, some 16, .bin .sub (.tmp 13) (.tmp 15)⟩,
  ⟨none, some 17, .slcT (.tmp 11) none (some (.tmp 16))⟩,
  ⟨none, some 4, .mv (.tmp 17)⟩,
  ⟨none, some 5, .mv (.const (.bool true))⟩])
 .ret))),
 [.tmp 4, .tmp 5]⟩
theorem c_stringslite_CutSuffix : compF P0 pf Go.Proofs.Tryz.f87 = some L_stringslite_CutSuffix := by kernel_rfl
/-- internal/stringslite.HasSuffix -/
abbrev n_stringslite_HasSuffix : Nat := 88
def L_stringslite_HasSuffix : LFn := ⟨21, (.seq (.region [⟨none, some 4, .mv (.const (.bool false))⟩])
 (.seq (.region [⟨none, some 5, .mv (.tmp 0)⟩,
  ⟨none, some 6, .lenT (.tmp 5)⟩,
  ⟨none, some 7, .mv (.tmp 1)⟩,
  ⟨none, some 8, .lenT (.tmp 7)⟩,
  ⟨none, some 9, .bin .geq (.tmp 6) (.tmp 8)⟩,
  ⟨none, some 10, .mv (.tmp 9)⟩,
  ⟨some (10, true), some 11, .mv (.tmp 0)⟩,
  ⟨some (10, true), some 12, .mv (.tmp 0)⟩,
  ⟨some (10, true), some 13, .lenT (.tmp 12)⟩,
  ⟨some (10, true), some 14, .mv (.tmp 1)⟩,
  ⟨some (10, true), some 15, .lenT (.tmp 14)⟩,
  ⟨some (10, true), some 16, .bin .sub (.tmp 13) (.tmp 15)⟩,
  ⟨some (10, true), some 17, .slcT (.tmp 11) (some (.tmp 16)) none⟩,
  ⟨some (10, true), some 18, .mv (.tmp 1)⟩,
  ⟨some (10, true), some 19, .bin .eql (.tmp 17) (.tmp 18)⟩,
  ⟨none, some 20, .pick (.tmp 10) (.tmp 19) (.const (.bool false))⟩,
  ⟨none, some 4, .mv (.tmp 20)⟩])
 .ret)),
 [.tmp 4]⟩
theorem c_stringslite_HasSuffix : compF P0 pf Go.Proofs.Tryz.f88 = some L_stringslite_HasSuffix := by kernel_rfl
/-- undertow/field.layouts -/
abbrev n_field_layouts : Nat := 99
def L_field_layouts : LFn := ⟨24, (.seq (.region [⟨none, some 0, .alloc [.int .i64 0, .int .i64 0, .slice none 0 0, .int .i64 0, .int .i64 0, .slice none 0 0, .int .i64 0, .int .i64 0, .slice none 0 0, .int .i64 0, .int .i64 0, .slice none 0 0, .int .i64 0, .int .i64 0, .slice none 0 0, .int .i64 0, .int .i64 0, .slice none 0 0]⟩])
 (.seq (.region [⟨none, some 1, .build [.int .i64 0, .int .i64 0, .int .i64 0] [(0, 1, (.const (.int .i64 31))), (1, 1, (.const (.int .i64 20))), (2, 1, (.const (.int .i64 0)))]⟩,
  ⟨none, some 2, .row 3 1 (zeroRow [.int .i64 0, .int .i64 0, .int .i64 0] 3) [(0, 3, (.tmp 1))]⟩,
  ⟨none, some 3, .build [.int .i64 0, .int .i64 0, .slice none 0 0] [(0, 1, (.const (.int .i64 12))), (1, 1, (.const (.int .i64 0))), (2, 1, (.tmp 2))]⟩,
  ⟨none, some 4, .build [.int .i64 0, .int .i64 0, .int .i64 0] [(0, 1, (.const (.int .i64 31))), (1, 1, (.const (.int .i64 25))), (2, 1, (.const (.int .i64 5)))]⟩,
  ⟨none, some 5, .build [.int .i64 0, .int .i64 0, .int .i64 0] [(0, 1, (.const (.int .i64 11))), (1, 1, (.const (.int .i64 7))), (2, 1, (.const (.int .i64 0)))]⟩,
  ⟨none, some 6, .row 3 2 (zeroRow [.int .i64 0, .int .i64 0, .int .i64 0] 6) [(0, 3, (.tmp 4)), (3, 3, (.tmp 5))]⟩,
  ⟨none, some 7, .build [.int .i64 0, .int .i64 0, .slice none 0 0] [(0, 1, (.const (.int .i64 12))), (1, 1, (.const (.int .i64 0))), (2, 1, (.tmp 6))]⟩,
  ⟨none, some 8, .build [.int .i64 0, .int .i64 0, .int .i64 0] [(0, 1, (.const (.int .i64 31))), (1, 1, (.const (.int .i64 31))), (2, 1, (.const (.int .i64 12)))]⟩,
  ⟨none, some 9, .build [.int .i64 0, .int .i64 0, .int .i64 0] [(0, 1, (.const (.int .i64 7))), (1, 1, (.const (.int .i64 7))), (2, 1, (.const (.int .i64 11)))]⟩,
  ⟨none, some 10, .build [.int .i64 0, .int .i64 0, .int .i64 0] [(0, 1, (.const (.int .i64 30))), (1, 1, (.const (.int .i64 25))), (2, 1, (.const (.int .i64 5)))]⟩,
  ⟨none, some 11, .build [.int .i64 0, .int .i64 0, .int .i64 0] [(0, 1, (.const (.int .i64 11))), (1, 1, (.const (.int .i64 8))), (2, 1, (.const (.int .i64 1)))]⟩,
  ⟨none, some 12, .row 3 4 (zeroRow [.int .i64 0, .int .i64 0, .int .i64 0] 12) [(0, 3, (.tmp 8)), (3, 3, (.tmp 9)), (6, 3, (.tmp 10)), (9, 3, (.tmp 11))]⟩,
  ⟨none, some 13, .build [.int .i64 0, .int .i64 0, .slice none 0 0] [(0, 1, (.const (.int .i64 13))), (1, 1, (.const (.int .i64 1))), (2, 1, (.tmp 12))]⟩,
  ⟨none, some 14, .build [.int .i64 0, .int .i64 0, .int .i64 0] [(0, 1, (.const (.int .i64 31))), (1, 1, (.const (.int .i64 12))), (2, 1, (.const (.int .i64 12)))]⟩,
  ⟨none, some 15, .row 3 1 (zeroRow [.int .i64 0, .int .i64 0, .int .i64 0] 3) [(0, 3, (.tmp 14))]⟩,
  ⟨none, some 16, .build [.int .i64 0, .int .i64 0, .slice none 0 0] [(0, 1, (.const (.int .i64 32))), (1, 1, (.const (.int .i64 12))), (2, 1, (.tmp 15))]⟩,
  ⟨none, some 17, .build [.int .i64 0, .int .i64 0, .int .i64 0] [(0, 1, (.const (.int .i64 31))), (1, 1, (.const (.int .i64 31))), (2, 1, (.const (.int .i64 20)))]⟩,
  ⟨none, some 18, .build [.int .i64 0, .int .i64 0, .int .i64 0] [(0, 1, (.const (.int .i64 19))), (1, 1, (.const (.int .i64 12))), (2, 1, (.const (.int .i64 12)))]⟩,
  ⟨none, some 19, .build [.int .i64 0, .int .i64 0, .int .i64 0] [(0, 1, (.const (.int .i64 20))), (1, 1, (.const (.int .i64 20))), (2, 1, (.const (.int .i64 11)))]⟩,
  ⟨none, some 20, .build [.int .i64 0, .int .i64 0, .int .i64 0] [(0, 1, (.const (.int .i64 30))), (1, 1, (.const (.int .i64 21))), (2, 1, (.const (.int .i64 1)))]⟩,
  ⟨none, some 21, .row 3 4 (zeroRow [.int .i64 0, .int .i64 0, .int .i64 0] 12) [(0, 3, (.tmp 17)), (3, 3, (.tmp 18)), (6, 3, (.tmp 19)), (9, 3, (.tmp 20))]⟩,
  ⟨none, some 22, .build [.int .i64 0, .int .i64 0, .slice none 0 0] [(0, 1, (.const (.int .i64 21))), (1, 1, (.const (.int .i64 1))), (2, 1, (.tmp 21))]⟩,
  ⟨none, some 23, .build [.int .i64 0, .int .i64 0, .slice none 0 0, .int .i64 0, .int .i64 0, .slice none 0 0, .int .i64 0, .int .i64 0, .slice none 0 0, .int .i64 0, .int .i64 0, .slice none 0 0, .int .i64 0, .int .i64 0, .slice none 0 0, .int .i64 0, .int .i64 0, .slice none 0 0] [(3, 3, (.tmp 3)), (6, 3, (.tmp 7)), (9, 3, (.tmp 13)), (12, 3, (.tmp 16)), (15, 3, (.tmp 22))]⟩,
  ⟨none, none, .store 18 (.tmp 0) (.tmp 23)⟩])
 .ret)),
 [.cellN 0 18]⟩
theorem c_field_layouts : compF P0 pf Go.Proofs.Tryz.f99 = some L_field_layouts := by kernel_rfl
def fnsL : List (Nat × LFn × Nat) := [(3, L_law09_ShowTexts, 3), (4, L_law09_ShowReads, 3), (5, L_law09_alive, 3), (6, L_show_Text, 3), (7, L_ref07_Right, 3), (8, L_ref09_Text, 3), (9, L_show_Read, 3), (10, L_ref09_Read, 3), (11, L_show_Number, 3), (12, L_show_Register, 3), (13, L_encode_Right, 3), (14, L_show_text, 3), (15, L_ref05_Sort, 3), (16, L_ref05_Writes, 3), (17, L_ref05_First, 3), (18, L_ref05_Second, 3), (19, L_ref06_Shift, 3), (20, L_ref06_Format, 3), (21, L_ref04_May, 3), (22, L_ref05_Name, 3), (23, L_ref09_Digits, 3), (24, L_ref09_Set, 3), (25, L_show_guess, 3), (26, L_ref09_words, 1), (27, L_ref09_Register, 3), (28, L_ref09_Number, 3), (29, L_ref09_bits, 3), (32, L_strings_CutPrefix, 3), (33, L_encode_immediate, 3), (34, L_ops_Sort, 3), (35, L_decode_Clean, 3), (36, L_show_parts, 1), (37, L_show_name, 3), (39, L_ref05_Names, 1), (41, L_show_operation, 3), (42, L_show_cut, 1), (43, L_strings_TrimSuffix, 3), (44, L_show_guess_1, 2), (45, L_show_guess_2, 2), (46, L_show_asSet, 3), (50, L_stringslite_CutPrefix, 3), (51, L_encode_shift, 3), (52, L_encode_format, 3), (53, L_field_Put, 3), (54, L_ops_Target, 3), (55, L_ops_Sources, 1), (56, L_show_reg, 3), (57, L_show_set, 3), (58, L_ops_Name, 3), (63, L_strings_CutSuffix, 3), (64, L_ops_ByName, 3), (65, L_strings_HasPrefix, 3), (66, L_stringslite_TrimSuffix, 3), (77, L_stringslite_HasPrefix, 3), (78, L_field_of, 0), (79, L_word_Sext, 3), (80, L_word_Zext, 3), (81, L_ops_register, 3), (83, L_ops_names, 3), (87, L_stringslite_CutSuffix, 3), (88, L_stringslite_HasSuffix, 3), (99, L_field_layouts, 0)]
def fns : Nat → Option (LFn × Nat) := fun f => (fnsL.find? (·.1 == f)).map (·.2)
theorem fns_ok : ∀ f F m, fns f = some (F, m) → ∃ fn, P0.funcs[f]? = some fn ∧ compF P0 pf fn = some F := by
  have h : ∀ x ∈ fnsL, ∃ fn, P0.funcs[x.1]? = some fn ∧ compF P0 pf fn = some x.2.1 := by
    unfold fnsL
    simp only [List.forall_mem_cons]
    exact ⟨⟨_, Go.Proofs.Tryz.func3, c_law09_ShowTexts⟩, ⟨_, Go.Proofs.Tryz.func4, c_law09_ShowReads⟩, ⟨_, Go.Proofs.Tryz.func5, c_law09_alive⟩, ⟨_, Go.Proofs.Tryz.func6, c_show_Text⟩, ⟨_, Go.Proofs.Tryz.func7, c_ref07_Right⟩, ⟨_, Go.Proofs.Tryz.func8, c_ref09_Text⟩, ⟨_, Go.Proofs.Tryz.func9, c_show_Read⟩, ⟨_, Go.Proofs.Tryz.func10, c_ref09_Read⟩, ⟨_, Go.Proofs.Tryz.func11, c_show_Number⟩, ⟨_, Go.Proofs.Tryz.func12, c_show_Register⟩, ⟨_, Go.Proofs.Tryz.func13, c_encode_Right⟩, ⟨_, Go.Proofs.Tryz.func14, c_show_text⟩, ⟨_, Go.Proofs.Tryz.func15, c_ref05_Sort⟩, ⟨_, Go.Proofs.Tryz.func16, c_ref05_Writes⟩, ⟨_, Go.Proofs.Tryz.func17, c_ref05_First⟩, ⟨_, Go.Proofs.Tryz.func18, c_ref05_Second⟩, ⟨_, Go.Proofs.Tryz.func19, c_ref06_Shift⟩, ⟨_, Go.Proofs.Tryz.func20, c_ref06_Format⟩, ⟨_, Go.Proofs.Tryz.func21, c_ref04_May⟩, ⟨_, Go.Proofs.Tryz.func22, c_ref05_Name⟩, ⟨_, Go.Proofs.Tryz.func23, c_ref09_Digits⟩, ⟨_, Go.Proofs.Tryz.func24, c_ref09_Set⟩, ⟨_, Go.Proofs.Tryz.func25, c_show_guess⟩, ⟨_, Go.Proofs.Tryz.func26, c_ref09_words⟩, ⟨_, Go.Proofs.Tryz.func27, c_ref09_Register⟩, ⟨_, Go.Proofs.Tryz.func28, c_ref09_Number⟩, ⟨_, Go.Proofs.Tryz.func29, c_ref09_bits⟩, ⟨_, Go.Proofs.Tryz.func32, c_strings_CutPrefix⟩, ⟨_, Go.Proofs.Tryz.func33, c_encode_immediate⟩, ⟨_, Go.Proofs.Tryz.func34, c_ops_Sort⟩, ⟨_, Go.Proofs.Tryz.func35, c_decode_Clean⟩, ⟨_, Go.Proofs.Tryz.func36, c_show_parts⟩, ⟨_, Go.Proofs.Tryz.func37, c_show_name⟩, ⟨_, Go.Proofs.Tryz.func39, c_ref05_Names⟩, ⟨_, Go.Proofs.Tryz.func41, c_show_operation⟩, ⟨_, Go.Proofs.Tryz.func42, c_show_cut⟩, ⟨_, Go.Proofs.Tryz.func43, c_strings_TrimSuffix⟩, ⟨_, Go.Proofs.Tryz.func44, c_show_guess_1⟩, ⟨_, Go.Proofs.Tryz.func45, c_show_guess_2⟩, ⟨_, Go.Proofs.Tryz.func46, c_show_asSet⟩, ⟨_, Go.Proofs.Tryz.func50, c_stringslite_CutPrefix⟩, ⟨_, Go.Proofs.Tryz.func51, c_encode_shift⟩, ⟨_, Go.Proofs.Tryz.func52, c_encode_format⟩, ⟨_, Go.Proofs.Tryz.func53, c_field_Put⟩, ⟨_, Go.Proofs.Tryz.func54, c_ops_Target⟩, ⟨_, Go.Proofs.Tryz.func55, c_ops_Sources⟩, ⟨_, Go.Proofs.Tryz.func56, c_show_reg⟩, ⟨_, Go.Proofs.Tryz.func57, c_show_set⟩, ⟨_, Go.Proofs.Tryz.func58, c_ops_Name⟩, ⟨_, Go.Proofs.Tryz.func63, c_strings_CutSuffix⟩, ⟨_, Go.Proofs.Tryz.func64, c_ops_ByName⟩, ⟨_, Go.Proofs.Tryz.func65, c_strings_HasPrefix⟩, ⟨_, Go.Proofs.Tryz.func66, c_stringslite_TrimSuffix⟩, ⟨_, Go.Proofs.Tryz.func77, c_stringslite_HasPrefix⟩, ⟨_, Go.Proofs.Tryz.func78, c_field_of⟩, ⟨_, Go.Proofs.Tryz.func79, c_word_Sext⟩, ⟨_, Go.Proofs.Tryz.func80, c_word_Zext⟩, ⟨_, Go.Proofs.Tryz.func81, c_ops_register⟩, ⟨_, Go.Proofs.Tryz.func83, c_ops_names⟩, ⟨_, Go.Proofs.Tryz.func87, c_stringslite_CutSuffix⟩, ⟨_, Go.Proofs.Tryz.func88, c_stringslite_HasSuffix⟩, ⟨_, Go.Proofs.Tryz.func99, c_field_layouts⟩, fun _ hx => by cases hx⟩
  intro f F m hf
  obtain ⟨x, hx, e⟩ := Option.map_eq_some_iff.1 hf
  have h1 := List.mem_of_find?_eq_some hx
  have h2 : x.1 = f := by simpa using List.find?_some hx
  obtain ⟨fn, a, b⟩ := h x h1
  rw [h2] at a
  rw [e] at b
  exact ⟨fn, a, b⟩
theorem fns_pure : ∀ f F m, fns f = some (F, m) → pf f = true → m ≠ 0 ∧ m ≠ 1 := by
  have h : fnsL.all (fun x => !pf x.1 || (x.2.2 != 0 && x.2.2 != 1)) = true := by kernel_rfl
  intro f F m hf hp
  obtain ⟨x, hx, e⟩ := Option.map_eq_some_iff.1 hf
  have h1 := List.mem_of_find?_eq_some hx
  have h2 : x.1 = f := by simpa using List.find?_some hx
  have h3 := List.all_eq_true.1 h x h1
  rw [h2, hp, e] at h3
  simpa using h3
abbrev errT : TypeId := 89
noncomputable def base : Tab := fun f => if f == 30 then rParse 89 else if f == 31 then scRow gFmt else if f == 38 then rJoin else if f == 40 then scRow gCut else if f == 67 then scRow gHas else if f == 82 then scRow gItoa else  fun _ _ _ => none
/-- The table, d calls deep; loops go round k times. -/
noncomputable def T (k d : Nat) : Tab := tabOf P0 base fns k d
end Go.Lev.Seat

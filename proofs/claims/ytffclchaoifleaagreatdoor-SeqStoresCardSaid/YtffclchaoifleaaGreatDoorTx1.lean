/- The texts of a seat's functions in the small interpreter's words, each with its check against the loaded program. Printed by program. -/
import Derived.Test.YtffclchaoifleaaGreatDoorLvD
import Derived.Test.YtffclchaoifleaaGreatDoorProg
set_option linter.unusedVariables false
set_option linter.unusedSimpArgs false
set_option linter.constructorNameAsVariable false

namespace Go.Lev.Seat
open Go Go.Lev
set_option maxRecDepth 100000
/-- The loaded program. -/
noncomputable abbrev P0 : Program := Go.Proofs.Tryz.prog
def pf : Nat → Bool := fun f => [3, 4, 5, 7, 8, 9, 12, 13, 15, 16, 17, 19, 20, 21, 22, 23, 24, 25, 26, 27, 28, 29, 30, 31, 34, 37, 38, 39, 40, 41, 42, 43, 44, 45, 46, 47, 49, 51, 52, 53, 54, 55, 56, 57, 58, 59, 60, 61, 62, 63, 64, 66, 67, 68, 69, 70, 71, 72, 73, 74, 75, 76, 77, 78, 81, 82, 83, 84, 85, 86, 87, 88, 89, 90, 92, 93, 94, 95, 96, 97, 98, 99, 100, 101, 103, 104, 105, 107, 108, 109, 114, 116, 117, 118, 120, 121, 123, 124, 126, 127, 128, 129, 139, 140, 142, 143, 144, 145, 146, 147, 148, 149, 150, 151, 152, 153, 154, 156, 163, 164, 165, 166, 168, 170, 171, 172, 173, 174, 175, 176, 184, 187, 188, 189, 190, 191, 192, 202, 203, 1000010, 1000011, 1000014, 1000018, 1000036, 1000048, 1000091, 1000102, 1000106, 1000169].any (· == f)
abbrev n_strconv_Itoa : Nat := 26
abbrev n_strings_Join : Nat := 108
abbrev n_strings_Cut : Nat := 116
abbrev n_strconv_FormatInt : Nat := 126
abbrev n_strings_Index : Nat := 140
abbrev n_strconv_ParseInt : Nat := 167
abbrev n_strings_Contains : Nat := 191
/-- undertow/undertowlaw10.AsmLines -/
abbrev n_law10_AsmLines : Nat := 3
def L_law10_AsmLines : LFn := ⟨31, (.seq (.region [⟨none, some 4, .mv (.const (.bool false))⟩])
 (.seq (.seq (.region [⟨none, some 5, .call (.func 8) []⟩,
  ⟨none, some 6, .un .not (.tmp 5)⟩])
 (.cond (.tmp 6) (.seq (.region [⟨none, some 4, .mv (.const (.bool false))⟩])
 .ret) .skip))
 (.seq (.seq (.region [⟨none, some 7, .mv (.tmp 0)⟩,
  ⟨none, some 8, .lenS (.tmp 7)⟩,
  ⟨none, some 9, .bin .gtr (.tmp 8) (.const (.int .i64 1100))⟩,
  ⟨none, some 10, .mv (.tmp 9)⟩,
  ⟨some (10, false), some 11, .mv (.tmp 1)⟩,
  ⟨some (10, false), some 12, .lenT (.tmp 11)⟩,
  ⟨some (10, false), some 13, .bin .gtr (.tmp 12) (.const (.int .i64 100))⟩,
  ⟨none, some 14, .pick (.tmp 10) (.const (.bool true)) (.tmp 13)⟩])
 (.cond (.tmp 14) (.seq (.region [⟨none, some 15, .call (.func 8) []⟩,
  ⟨none, some 4, .mv (.tmp 15)⟩])
 .ret) .skip))
 (.seq (.region [⟨none, some 16, .call (.func 8) []⟩,
  ⟨none, some 17, .mv (.tmp 16)⟩,
  ⟨some (17, true), some 18, .mv (.tmp 0)⟩,
  ⟨some (17, true), some 19, .call (.func 10) [(.tmp 18)]⟩,
  ⟨some (17, true), some 20, .mv (.tmp 0)⟩,
  ⟨some (17, true), some 21, .call (.func 11) [(.tmp 20)]⟩,
  ⟨some (17, true), some 22, .call (.func 9) [(.tmp 19), (.tmp 21)]⟩,
  ⟨none, some 23, .pick (.tmp 17) (.tmp 22) (.const (.bool false))⟩,
  ⟨none, some 24, .mv (.tmp 23)⟩,
  ⟨some (24, true), some 25, .mv (.tmp 1)⟩,
  ⟨some (24, true), some 26, .call (.func 12) [(.tmp 25)]⟩,
  ⟨some (24, true), some 27, .mv (.tmp 1)⟩,
  ⟨some (24, true), some 28, .call (.func 13) [(.tmp 27)]⟩,
  ⟨some (24, true), some 29, .binB .eql (.tmp 26) (.tmp 28)⟩,
  ⟨none, some 30, .pick (.tmp 24) (.tmp 29) (.const (.bool false))⟩,
  ⟨none, some 4, .mv (.tmp 30)⟩])
 .ret)))),
 [.tmp 4]⟩
theorem c_law10_AsmLines : compF P0 pf Go.Proofs.Tryz.f3 = some L_law10_AsmLines := by kernel_rfl
/-- undertow/undertowlaw10.AsmBack -/
abbrev n_law10_AsmBack : Nat := 4
def L_law10_AsmBack : LFn := ⟨59, (.seq (.region [⟨none, some 2, .mv (.const (.bool false))⟩])
 (.seq (.seq (.region [⟨none, some 10, .call (.func 8) []⟩,
  ⟨none, some 11, .un .not (.tmp 10)⟩])
 (.cond (.tmp 11) (.seq (.region [⟨none, some 2, .mv (.const (.bool false))⟩])
 .ret) .skip))
 (.seq (.seq (.region [⟨none, some 12, .mv (.tmp 0)⟩,
  ⟨none, some 13, .lenS (.tmp 12)⟩,
  ⟨none, some 14, .bin .gtr (.tmp 13) (.const (.int .i64 1024))⟩])
 (.cond (.tmp 14) (.seq (.region [⟨none, some 15, .call (.func 8) []⟩,
  ⟨none, some 2, .mv (.tmp 15)⟩])
 .ret) .skip))
 (.seq (.region [⟨none, some 3, .mv (.const (.string ⟨#[]⟩))⟩])
 (.seq (.region [⟨none, some 16, .mv (.tmp 0)⟩,
  ⟨none, some 17, .call (.func 10) [(.tmp 16)]⟩,
  ⟨none, some 4, .mv (.tmp 17)⟩])
 (.seq (.seq (.region [⟨none, some 5, .mv (.const (.int .i64 0))⟩])
 (.block 0 (.loop (.seq (.seq (.region [⟨none, some 18, .mv (.tmp 5)⟩,
  ⟨none, some 19, .mv (.tmp 4)⟩,
  ⟨none, some 20, .lenS (.tmp 19)⟩,
  ⟨none, some 21, .bin .lss (.tmp 18) (.tmp 20)⟩])
 (.cond (.tmp 21) .skip (.exit 0)))
 (.seq (.block 1 (.region [⟨none, some 24, .mv (.tmp 3)⟩,
  ⟨none, some 25, .mv (.tmp 4)⟩,
  ⟨none, some 26, .mv (.tmp 5)⟩,
  ⟨none, some 27, .iadS 1 (.tmp 25) (.tmp 26)⟩,
  ⟨none, some 28, .load1 (.tmp 27)⟩,
  ⟨none, some 29, .bin .add (.tmp 24) (.tmp 28)⟩,
  ⟨none, some 30, .bin .add (.tmp 29) (.const (.string ⟨#[10]⟩))⟩,
  ⟨none, some 3, .mv (.tmp 30)⟩]))
 (.region [⟨none, some 22, .mv (.tmp 5)⟩,
  ⟨none, some 23, .bin .add (.tmp 22) (.const (.int .i64 1))⟩,
  ⟨none, some 5, .mv (.tmp 23)⟩]))))))
 (.seq (.region [⟨none, some 32, .mv (.tmp 3)⟩,
  ⟨none, some 33, .mv (.tmp 0)⟩,
  ⟨none, some 34, .lenS (.tmp 33)⟩,
  ⟨none, some 35, .call (.func 14) [(.tmp 32), (.tmp 34)]⟩,
  ⟨none, some 31, .mv (.tmp 35)⟩,
  ⟨none, some 36, .ext (.tmp 31) 0⟩,
  ⟨none, some 37, .ext (.tmp 31) 1⟩,
  ⟨none, some 38, .ext (.tmp 31) 2⟩,
  ⟨none, some 39, .ext (.tmp 31) 3⟩,
  ⟨none, some 6, .mv (.tmp 36)⟩,
  ⟨none, some 7, .mv (.tmp 37)⟩,
  ⟨none, some 8, .mv (.tmp 38)⟩,
  ⟨none, some 9, .mv (.tmp 39)⟩])
 (.seq (.region [⟨none, some 40, .call (.func 8) []⟩,
  ⟨none, some 41, .mv (.tmp 40)⟩,
  ⟨some (41, true), some 42, .mv (.tmp 9)⟩,
  ⟨some (41, true), some 43, .bin .eql (.tmp 42) (.const (.int .i64 0))⟩,
  ⟨none, some 44, .pick (.tmp 41) (.tmp 43) (.const (.bool false))⟩,
  ⟨none, some 45, .mv (.tmp 44)⟩,
  ⟨some (45, true), some 46, .mv (.tmp 8)⟩,
  ⟨some (45, true), some 47, .bin .eql (.tmp 46) (.const (.int .i64 0))⟩,
  ⟨none, some 48, .pick (.tmp 45) (.tmp 47) (.const (.bool false))⟩,
  ⟨none, some 49, .mv (.tmp 48)⟩,
  ⟨some (49, true), some 50, .mv (.tmp 7)⟩,
  ⟨some (49, true), some 51, .lenS (.tmp 50)⟩,
  ⟨some (49, true), some 52, .bin .eql (.tmp 51) (.const (.int .i64 0))⟩,
  ⟨none, some 53, .pick (.tmp 49) (.tmp 52) (.const (.bool false))⟩,
  ⟨none, some 54, .mv (.tmp 53)⟩,
  ⟨some (54, true), some 55, .mv (.tmp 0)⟩,
  ⟨some (54, true), some 56, .mv (.tmp 6)⟩,
  ⟨some (54, true), some 57, .call (.func 15) [(.tmp 55), (.tmp 56)]⟩,
  ⟨none, some 58, .pick (.tmp 54) (.tmp 57) (.const (.bool false))⟩,
  ⟨none, some 2, .mv (.tmp 58)⟩])
 .ret)))))))),
 [.tmp 2]⟩
theorem c_law10_AsmBack : compF P0 pf Go.Proofs.Tryz.f4 = some L_law10_AsmBack := by kernel_rfl
/-- undertow/undertowlaw11.SeqStays -/
abbrev n_law11_SeqStays : Nat := 5
def L_law11_SeqStays : LFn := ⟨55, (.seq (.region [⟨none, some 4, .box (.tmp 0)⟩,
  ⟨none, some 8, .mv (.const (.bool false))⟩])
 (.seq (.seq (.region [⟨none, some 13, .call (.func 16) []⟩,
  ⟨none, some 14, .un .not (.tmp 13)⟩])
 (.cond (.tmp 14) (.seq (.region [⟨none, some 8, .mv (.const (.bool false))⟩])
 .ret) .skip))
 (.seq (.seq (.region [⟨none, some 15, .mv (.tmp 1)⟩,
  ⟨none, some 16, .lenS (.tmp 15)⟩,
  ⟨none, some 17, .bin .gtr (.tmp 16) (.const (.int .i64 1024))⟩])
 (.cond (.tmp 17) (.seq (.region [⟨none, some 18, .call (.func 16) []⟩,
  ⟨none, some 8, .mv (.tmp 18)⟩])
 .ret) .skip))
 (.seq (.region [⟨none, some 20, .loadN 34 (.tmp 4)⟩,
  ⟨none, some 21, .mv (.tmp 1)⟩,
  ⟨none, some 22, .mv (.tmp 2)⟩,
  ⟨none, some 23, .mv (.tmp 3)⟩,
  ⟨none, some 24, .call (.func 17) [(.tmp 20), (.tmp 21), (.tmp 22), (.tmp 23)]⟩,
  ⟨none, some 19, .mv (.tmp 24)⟩,
  ⟨none, some 25, .ext (.tmp 19) 0⟩,
  ⟨none, some 26, .ext (.tmp 19) 1⟩,
  ⟨none, some 9, .alloc [.int .u64 0, .int .u64 0, .int .u64 0, .int .u64 0, .int .u64 0, .int .u64 0, .int .u64 0, .int .u64 0, .int .u64 0, .int .u64 0, .int .u64 0, .int .u64 0, .int .u64 0, .int .u64 0, .int .u64 0, .int .u64 0, .int .u64 0, .int .u64 0, .int .u64 0, .int .u64 0, .int .u64 0, .int .u64 0, .int .u64 0, .int .u64 0, .int .u64 0, .int .u64 0, .int .u64 0, .int .u64 0, .int .u64 0, .int .u64 0, .int .u64 0, .int .u64 0, .int .u64 0, .int .i64 0]⟩,
  ⟨none, some 10, .alloc [.int .u64 0, .int .i64 0, .int .i64 0, .int .i64 0, .int .i64 0, .int .i64 0, .bool false, .bool false, .int .i64 0, .int .i64 0, .int .i64 0, .int .u64 0, .int .u64 0, .int .u64 0, .int .u64 0, .bool false]⟩,
  ⟨none, none, .store 34 (.tmp 9) (.tmp 25)⟩,
  ⟨none, none, .store 16 (.tmp 10) (.tmp 26)⟩])
 (.seq (.seq (.region [⟨none, some 27, .fad 1 (.tmp 9)⟩,
  ⟨none, some 28, .iadA 32 1 (.tmp 27) (.const (.int .i64 0))⟩,
  ⟨none, some 29, .load1 (.tmp 28)⟩,
  ⟨none, some 30, .bin .neq (.tmp 29) (.const (.int .u64 0))⟩])
 (.cond (.tmp 30) (.seq (.region [⟨none, some 8, .mv (.const (.bool false))⟩])
 .ret) .skip))
 (.seq (.region [⟨none, some 32, .loadN 34 (.tmp 9)⟩,
  ⟨none, some 33, .mv (.tmp 1)⟩,
  ⟨none, some 34, .mv (.tmp 2)⟩,
  ⟨none, some 35, .mv (.tmp 3)⟩,
  ⟨none, some 36, .call (.func 17) [(.tmp 32), (.tmp 33), (.tmp 34), (.tmp 35)]⟩,
  ⟨none, some 31, .mv (.tmp 36)⟩,
  ⟨none, some 37, .ext (.tmp 31) 0⟩,
  ⟨none, some 38, .ext (.tmp 31) 1⟩,
  ⟨none, some 11, .alloc [.int .u64 0, .int .u64 0, .int .u64 0, .int .u64 0, .int .u64 0, .int .u64 0, .int .u64 0, .int .u64 0, .int .u64 0, .int .u64 0, .int .u64 0, .int .u64 0, .int .u64 0, .int .u64 0, .int .u64 0, .int .u64 0, .int .u64 0, .int .u64 0, .int .u64 0, .int .u64 0, .int .u64 0, .int .u64 0, .int .u64 0, .int .u64 0, .int .u64 0, .int .u64 0, .int .u64 0, .int .u64 0, .int .u64 0, .int .u64 0, .int .u64 0, .int .u64 0, .int .u64 0, .int .i64 0]⟩,
  ⟨none, some 12, .alloc [.int .u64 0, .int .i64 0, .int .i64 0, .int .i64 0, .int .i64 0, .int .i64 0, .bool false, .bool false, .int .i64 0, .int .i64 0, .int .i64 0, .int .u64 0, .int .u64 0, .int .u64 0, .int .u64 0, .bool false]⟩,
  ⟨none, none, .store 34 (.tmp 11) (.tmp 37)⟩,
  ⟨none, none, .store 16 (.tmp 12) (.tmp 38)⟩])
 (.seq (.region [⟨none, some 39, .call (.func 16) []⟩,
  ⟨none, some 40, .mv (.tmp 39)⟩,
  ⟨some (40, true), some 41, .fad 33 (.tmp 9)⟩,
  ⟨some (40, true), some 42, .load1 (.tmp 41)⟩,
  ⟨some (40, true), some 43, .bin .eql (.tmp 42) (.const (.int .i64 0))⟩,
  ⟨some (40, true), some 44, .mv (.tmp 43)⟩,
  ⟨some (44, false), some 45, .loadN 34 (.tmp 9)⟩,
  ⟨some (44, false), some 46, .loadN 34 (.tmp 11)⟩,
  ⟨some (44, false), some 47, .eqA [(0, 0), (1, 0), (2, 0), (3, 0), (4, 0), (5, 0), (6, 0), (7, 0), (8, 0), (9, 0), (10, 0), (11, 0), (12, 0), (13, 0), (14, 0), (15, 0), (16, 0), (17, 0), (18, 0), (19, 0), (20, 0), (21, 0), (22, 0), (23, 0), (24, 0), (25, 0), (26, 0), (27, 0), (28, 0), (29, 0), (30, 0), (31, 0), (32, 0), (33, 0)] false (.tmp 45) (.tmp 46)⟩,
  ⟨some (44, false), some 48, .mv (.tmp 47)⟩,
  ⟨some (48, true), some 49, .loadN 16 (.tmp 12)⟩,
  ⟨some (48, true), some 50, .build [.int .u64 0, .int .i64 0, .int .i64 0, .int .i64 0, .int .i64 0, .int .i64 0, .bool false, .bool false, .int .i64 0, .int .i64 0, .int .i64 0, .int .u64 0, .int .u64 0, .int .u64 0, .int .u64 0, .bool false] []⟩,
  ⟨some (48, true), some 51, .eqA [(0, 0), (1, 0), (2, 0), (3, 0), (4, 0), (5, 0), (6, 1), (7, 1), (8, 0), (9, 0), (10, 0), (11, 0), (12, 0), (13, 0), (14, 0), (15, 1)] false (.tmp 49) (.tmp 50)⟩,
  ⟨some (44, false), some 52, .pick (.tmp 48) (.tmp 51) (.const (.bool false))⟩,
  ⟨some (40, true), some 53, .pick (.tmp 44) (.const (.bool true)) (.tmp 52)⟩,
  ⟨none, some 54, .pick (.tmp 40) (.tmp 53) (.const (.bool false))⟩,
  ⟨none, some 8, .mv (.tmp 54)⟩])
 .ret))))))),
 [.tmp 8]⟩
theorem c_law11_SeqStays : compF P0 pf Go.Proofs.Tryz.f5 = some L_law11_SeqStays := by kernel_rfl
/-- undertow/undertowlaw11.SeqStores -/
abbrev n_law11_SeqStores : Nat := 7
def L_law11_SeqStores : LFn := ⟨87, (.seq (.region [⟨none, some 6, .mv (.const (.bool false))⟩])
 (.seq (.seq (.region [⟨none, some 19, .call (.func 16) []⟩,
  ⟨none, some 20, .un .not (.tmp 19)⟩])
 (.cond (.tmp 20) (.seq (.region [⟨none, some 6, .mv (.const (.bool false))⟩])
 .ret) .skip))
 (.seq (.region [⟨none, some 21, .mv (.tmp 2)⟩,
  ⟨none, some 22, .bin .rem (.tmp 21) (.const (.int .u8 4))⟩,
  ⟨none, some 23, .convI .i64 (.tmp 22)⟩,
  ⟨none, some 7, .mv (.tmp 23)⟩])
 (.seq (.region [⟨none, some 24, .mv (.tmp 0)⟩,
  ⟨none, some 25, .convI .u64 (.tmp 24)⟩,
  ⟨none, some 26, .bin .quo (.tmp 25) (.const (.int .u64 8))⟩,
  ⟨none, some 27, .bin .mul (.tmp 26) (.const (.int .u64 8))⟩,
  ⟨none, some 28, .bin .rem (.tmp 27) (.const (.int .u64 64))⟩,
  ⟨none, some 8, .mv (.tmp 28)⟩])
 (.seq (.region [⟨none, some 29, .row 1 4 (zeroRow [.string ⟨#[]⟩] 4) [(0, 1, (.const (.string ⟨#[115, 98, 32, 120, 49, 44, 32, 48, 40, 120, 50, 41, 10, 108, 98, 117, 32, 120, 51, 44, 32, 48, 40, 120, 50, 41, 10, 104, 97, 108, 116]⟩))), (1, 1, (.const (.string ⟨#[115, 104, 32, 120, 49, 44, 32, 48, 40, 120, 50, 41, 10, 108, 104, 117, 32, 120, 51, 44, 32, 48, 40, 120, 50, 41, 10, 104, 97, 108, 116]⟩))), (2, 1, (.const (.string ⟨#[115, 119, 32, 120, 49, 44, 32, 48, 40, 120, 50, 41, 10, 108, 119, 117, 32, 120, 51, 44, 32, 48, 40, 120, 50, 41, 10, 104, 97, 108, 116]⟩))), (3, 1, (.const (.string ⟨#[115, 100, 32, 120, 49, 44, 32, 48, 40, 120, 50, 41, 10, 108, 100, 32, 120, 51, 44, 32, 48, 40, 120, 50, 41, 10, 104, 97, 108, 116]⟩)))]⟩,
  ⟨none, some 9, .mv (.tmp 29)⟩])
 (.seq (.region [⟨none, some 31, .mv (.tmp 9)⟩,
  ⟨none, some 32, .mv (.tmp 7)⟩,
  ⟨none, some 33, .iadS 1 (.tmp 31) (.tmp 32)⟩,
  ⟨none, some 34, .load1 (.tmp 33)⟩,
  ⟨none, some 35, .call (.func 14) [(.tmp 34), (.const (.int .i64 64))]⟩,
  ⟨none, some 30, .mv (.tmp 35)⟩,
  ⟨none, some 36, .ext (.tmp 30) 0⟩,
  ⟨none, some 37, .ext (.tmp 30) 1⟩,
  ⟨none, some 38, .ext (.tmp 30) 2⟩,
  ⟨none, some 39, .ext (.tmp 30) 3⟩,
  ⟨none, some 10, .mv (.tmp 36)⟩,
  ⟨none, some 11, .mv (.tmp 37)⟩,
  ⟨none, some 12, .mv (.tmp 38)⟩,
  ⟨none, some 13, .mv (.tmp 39)⟩])
 (.seq (.region [⟨none, some 40, .build [.int .u64 0, .int .u64 0, .int .u64 0, .int .u64 0, .int .u64 0, .int .u64 0, .int .u64 0, .int .u64 0, .int .u64 0, .int .u64 0, .int .u64 0, .int .u64 0, .int .u64 0, .int .u64 0, .int .u64 0, .int .u64 0, .int .u64 0, .int .u64 0, .int .u64 0, .int .u64 0, .int .u64 0, .int .u64 0, .int .u64 0, .int .u64 0, .int .u64 0, .int .u64 0, .int .u64 0, .int .u64 0, .int .u64 0, .int .u64 0, .int .u64 0, .int .u64 0, .int .u64 0, .int .i64 0] []⟩,
  ⟨none, some 14, .alloc [.int .u64 0, .int .u64 0, .int .u64 0, .int .u64 0, .int .u64 0, .int .u64 0, .int .u64 0, .int .u64 0, .int .u64 0, .int .u64 0, .int .u64 0, .int .u64 0, .int .u64 0, .int .u64 0, .int .u64 0, .int .u64 0, .int .u64 0, .int .u64 0, .int .u64 0, .int .u64 0, .int .u64 0, .int .u64 0, .int .u64 0, .int .u64 0, .int .u64 0, .int .u64 0, .int .u64 0, .int .u64 0, .int .u64 0, .int .u64 0, .int .u64 0, .int .u64 0, .int .u64 0, .int .i64 0]⟩,
  ⟨none, none, .store 34 (.tmp 14) (.tmp 40)⟩])
 (.seq (.region [⟨none, some 41, .mv (.tmp 1)⟩,
  ⟨none, some 42, .fad 1 (.tmp 14)⟩,
  ⟨none, some 43, .iadA 32 1 (.tmp 42) (.const (.int .i64 1))⟩,
  ⟨none, none, .store 1 (.tmp 43) (.tmp 41)⟩])
 (.seq (.region [⟨none, some 44, .mv (.tmp 8)⟩,
  ⟨none, some 45, .fad 1 (.tmp 14)⟩,
  ⟨none, some 46, .iadA 32 1 (.tmp 45) (.const (.int .i64 2))⟩,
  ⟨none, none, .store 1 (.tmp 46) (.tmp 44)⟩])
 (.seq (.region [⟨none, some 48, .loadN 34 (.tmp 14)⟩,
  ⟨none, some 49, .mv (.tmp 10)⟩,
  ⟨none, some 50, .call (.func 18) [(.tmp 48), (.tmp 49), (.const (.int .i64 5))]⟩,
  ⟨none, some 47, .mv (.tmp 50)⟩,
  ⟨none, some 51, .ext (.tmp 47) 0⟩,
  ⟨none, some 52, .ext (.tmp 47) 1⟩,
  ⟨none, some 53, .ext (.tmp 47) 2⟩,
  ⟨none, some 15, .alloc [.int .u64 0, .int .u64 0, .int .u64 0, .int .u64 0, .int .u64 0, .int .u64 0, .int .u64 0, .int .u64 0, .int .u64 0, .int .u64 0, .int .u64 0, .int .u64 0, .int .u64 0, .int .u64 0, .int .u64 0, .int .u64 0, .int .u64 0, .int .u64 0, .int .u64 0, .int .u64 0, .int .u64 0, .int .u64 0, .int .u64 0, .int .u64 0, .int .u64 0, .int .u64 0, .int .u64 0, .int .u64 0, .int .u64 0, .int .u64 0, .int .u64 0, .int .u64 0, .int .u64 0, .int .i64 0]⟩,
  ⟨none, none, .store 34 (.tmp 15) (.tmp 51)⟩,
  ⟨none, some 16, .mv (.tmp 52)⟩,
  ⟨none, some 17, .mv (.tmp 53)⟩])
 (.seq (.region [⟨none, some 54, .mv (.tmp 7)⟩,
  ⟨none, some 55, .bin .add (.const (.int .i64 18)) (.tmp 54)⟩,
  ⟨none, some 56, .call (.func 19) [(.tmp 55)]⟩,
  ⟨none, some 18, .mv (.tmp 56)⟩])
 (.seq (.region [⟨none, some 57, .call (.func 16) []⟩,
  ⟨none, some 58, .mv (.tmp 57)⟩,
  ⟨some (58, true), some 59, .mv (.tmp 13)⟩,
  ⟨some (58, true), some 60, .bin .eql (.tmp 59) (.const (.int .i64 0))⟩,
  ⟨none, some 61, .pick (.tmp 58) (.tmp 60) (.const (.bool false))⟩,
  ⟨none, some 62, .mv (.tmp 61)⟩,
  ⟨some (62, true), some 63, .mv (.tmp 17)⟩,
  ⟨some (62, true), some 64, .lenS (.tmp 63)⟩,
  ⟨some (62, true), some 65, .bin .eql (.tmp 64) (.const (.int .i64 3))⟩,
  ⟨none, some 66, .pick (.tmp 62) (.tmp 65) (.const (.bool false))⟩,
  ⟨none, some 67, .mv (.tmp 66)⟩,
  ⟨some (67, true), some 68, .fad 1 (.tmp 15)⟩,
  ⟨some (67, true), some 69, .iadA 32 1 (.tmp 68) (.const (.int .i64 3))⟩,
  ⟨some (67, true), some 70, .load1 (.tmp 69)⟩,
  ⟨some (67, true), some 71, .mv (.tmp 1)⟩,
  ⟨some (67, true), some 72, .mv (.tmp 18)⟩,
  ⟨some (67, true), some 73, .bin .mul (.const (.int .i64 8)) (.tmp 72)⟩,
  ⟨some (67, true), some 74, .call (.func 20) [(.tmp 71), (.tmp 73)]⟩,
  ⟨some (67, true), some 75, .bin .eql (.tmp 70) (.tmp 74)⟩,
  ⟨none, some 76, .pick (.tmp 67) (.tmp 75) (.const (.bool false))⟩,
  ⟨none, some 77, .mv (.tmp 76)⟩,
  ⟨some (77, true), some 78, .mv (.tmp 16)⟩,
  ⟨some (77, true), some 79, .lenS (.tmp 78)⟩,
  ⟨some (77, true), some 80, .bin .eql (.tmp 79) (.const (.int .i64 64))⟩,
  ⟨none, some 81, .pick (.tmp 77) (.tmp 80) (.const (.bool false))⟩,
  ⟨none, some 82, .mv (.tmp 81)⟩,
  ⟨some (82, true), some 83, .fad 33 (.tmp 15)⟩,
  ⟨some (82, true), some 84, .load1 (.tmp 83)⟩,
  ⟨some (82, true), some 85, .bin .eql (.tmp 84) (.const (.int .i64 2))⟩,
  ⟨none, some 86, .pick (.tmp 82) (.tmp 85) (.const (.bool false))⟩,
  ⟨none, some 6, .mv (.tmp 86)⟩])
 .ret)))))))))))),
 [.tmp 6]⟩
theorem c_law11_SeqStores : compF P0 pf Go.Proofs.Tryz.f7 = some L_law11_SeqStores := by kernel_rfl
/-- undertow/undertowlaw10.alive -/
abbrev n_law10_alive : Nat := 8
def L_law10_alive : LFn := ⟨43, (.seq (.region [⟨none, some 0, .mv (.const (.bool false))⟩])
 (.seq (.region [⟨none, some 6, .call (.func 14) [(.const (.string ⟨#[108, 111, 111, 112, 58, 10, 97, 100, 100, 105, 32, 120, 49, 44, 32, 120, 49, 44, 32, 45, 49, 10, 98, 110, 101, 32, 120, 49, 44, 32, 120, 48, 44, 32, 108, 111, 111, 112, 10, 104, 97, 108, 116, 32, 35, 32, 101, 110, 100]⟩)), (.const (.int .i64 12))]⟩,
  ⟨none, some 5, .mv (.tmp 6)⟩,
  ⟨none, some 7, .ext (.tmp 5) 0⟩,
  ⟨none, some 8, .ext (.tmp 5) 1⟩,
  ⟨none, some 9, .ext (.tmp 5) 2⟩,
  ⟨none, some 10, .ext (.tmp 5) 3⟩,
  ⟨none, some 1, .mv (.tmp 7)⟩,
  ⟨none, some 2, .mv (.tmp 8)⟩,
  ⟨none, some 3, .mv (.tmp 9)⟩,
  ⟨none, some 4, .mv (.tmp 10)⟩])
 (.seq (.region [⟨none, some 11, .mv (.tmp 4)⟩,
  ⟨none, some 12, .bin .eql (.tmp 11) (.const (.int .i64 0))⟩,
  ⟨none, some 13, .mv (.tmp 12)⟩,
  ⟨some (13, true), some 14, .mv (.tmp 3)⟩,
  ⟨some (13, true), some 15, .bin .eql (.tmp 14) (.const (.int .i64 0))⟩,
  ⟨none, some 16, .pick (.tmp 13) (.tmp 15) (.const (.bool false))⟩,
  ⟨none, some 17, .mv (.tmp 16)⟩,
  ⟨some (17, true), some 18, .mv (.tmp 2)⟩,
  ⟨some (17, true), some 19, .lenS (.tmp 18)⟩,
  ⟨some (17, true), some 20, .bin .eql (.tmp 19) (.const (.int .i64 1))⟩,
  ⟨none, some 21, .pick (.tmp 17) (.tmp 20) (.const (.bool false))⟩,
  ⟨none, some 22, .mv (.tmp 21)⟩,
  ⟨some (22, true), some 23, .mv (.tmp 2)⟩,
  ⟨some (22, true), some 24, .iadS 2 (.tmp 23) (.const (.int .i64 0))⟩,
  ⟨some (22, true), some 25, .fad 1 (.tmp 24)⟩,
  ⟨some (22, true), some 26, .load1 (.tmp 25)⟩,
  ⟨some (22, true), some 27, .bin .eql (.tmp 26) (.const (.int .i64 0))⟩,
  ⟨none, some 28, .pick (.tmp 22) (.tmp 27) (.const (.bool false))⟩,
  ⟨none, some 29, .mv (.tmp 28)⟩,
  ⟨some (29, true), some 30, .mv (.tmp 1)⟩,
  ⟨some (29, true), some 31, .row 1 12 (zeroRow [.int .u8 0] 12) [(0, 1, (.const (.int .u8 147))), (1, 1, (.const (.int .u8 128))), (2, 1, (.const (.int .u8 240))), (3, 1, (.const (.int .u8 255))), (4, 1, (.const (.int .u8 227))), (5, 1, (.const (.int .u8 158))), (6, 1, (.const (.int .u8 0))), (7, 1, (.const (.int .u8 254))), (8, 1, (.const (.int .u8 115))), (9, 1, (.const (.int .u8 0))), (10, 1, (.const (.int .u8 16))), (11, 1, (.const (.int .u8 0)))]⟩,
  ⟨some (29, true), some 32, .call (.func 15) [(.tmp 30), (.tmp 31)]⟩,
  ⟨none, some 33, .pick (.tmp 29) (.tmp 32) (.const (.bool false))⟩,
  ⟨none, some 34, .mv (.tmp 33)⟩,
  ⟨some (34, true), some 35, .call (.func 12) [(.const (.string ⟨#[108, 111, 111, 112, 95, 49]⟩))]⟩,
  ⟨none, some 36, .pick (.tmp 34) (.tmp 35) (.const (.bool false))⟩,
  ⟨none, some 37, .mv (.tmp 36)⟩,
  ⟨some (37, true), some 38, .mv (.tmp 1)⟩,
  ⟨some (37, true), some 39, .call (.func 10) [(.tmp 38)]⟩,
  ⟨some (37, true), some 40, .lenS (.tmp 39)⟩,
  ⟨some (37, true), some 41, .bin .eql (.tmp 40) (.const (.int .i64 3))⟩,
  ⟨none, some 42, .pick (.tmp 37) (.tmp 41) (.const (.bool false))⟩,
  ⟨none, some 0, .mv (.tmp 42)⟩])
 .ret))),
 [.tmp 0]⟩
theorem c_law10_alive : compF P0 pf Go.Proofs.Tryz.f8 = some L_law10_alive := by kernel_rfl
/-- undertow/undertowref10.SameTexts -/
abbrev n_ref10_SameTexts : Nat := 9
def L_ref10_SameTexts : LFn := ⟨26, (.seq (.region [⟨none, some 4, .mv (.const (.bool false))⟩])
 (.seq (.seq (.region [⟨none, some 6, .mv (.tmp 0)⟩,
  ⟨none, some 7, .lenS (.tmp 6)⟩,
  ⟨none, some 8, .mv (.tmp 1)⟩,
  ⟨none, some 9, .lenS (.tmp 8)⟩,
  ⟨none, some 10, .bin .neq (.tmp 7) (.tmp 9)⟩])
 (.cond (.tmp 10) (.seq (.region [⟨none, some 4, .mv (.const (.bool false))⟩])
 .ret) .skip))
 (.seq (.seq (.region [⟨none, some 5, .mv (.const (.int .i64 0))⟩])
 (.block 0 (.loop (.seq (.seq (.region [⟨none, some 11, .mv (.tmp 5)⟩,
  ⟨none, some 12, .mv (.tmp 0)⟩,
  ⟨none, some 13, .lenS (.tmp 12)⟩,
  ⟨none, some 14, .bin .lss (.tmp 11) (.tmp 13)⟩])
 (.cond (.tmp 14) .skip (.exit 0)))
 (.seq (.block 1 (.seq (.region [⟨none, some 17, .mv (.tmp 0)⟩,
  ⟨none, some 18, .mv (.tmp 5)⟩,
  ⟨none, some 19, .iadS 1 (.tmp 17) (.tmp 18)⟩,
  ⟨none, some 20, .load1 (.tmp 19)⟩,
  ⟨none, some 21, .mv (.tmp 1)⟩,
  ⟨none, some 22, .mv (.tmp 5)⟩,
  ⟨none, some 23, .iadS 1 (.tmp 21) (.tmp 22)⟩,
  ⟨none, some 24, .load1 (.tmp 23)⟩,
  ⟨none, some 25, .bin .neq (.tmp 20) (.tmp 24)⟩])
 (.cond (.tmp 25) (.seq (.region [⟨none, some 4, .mv (.const (.bool false))⟩])
 .ret) .skip)))
 (.region [⟨none, some 15, .mv (.tmp 5)⟩,
  ⟨none, some 16, .bin .add (.tmp 15) (.const (.int .i64 1))⟩,
  ⟨none, some 5, .mv (.tmp 16)⟩]))))))
 (.seq (.region [⟨none, some 4, .mv (.const (.bool true))⟩])
 .ret)))),
 [.tmp 4]⟩
theorem c_ref10_SameTexts : compF P0 pf Go.Proofs.Tryz.f9 = some L_ref10_SameTexts := by kernel_rfl
/-- undertow/asm.Lines -/
abbrev n_asm_Lines : Nat := 10
def L_asm_Lines : LFn := ⟨68, (.seq (.region [⟨none, some 2, .mv (.const (.slice none 0 0))⟩])
 (.seq (.region [⟨none, some 3, .mv (.const (.slice none 0 0))⟩])
 (.seq .skip
 (.seq (.block 0 (.loop (.seq (.seq (.region [⟨none, some 13, .mv (.tmp 0)⟩,
  ⟨none, some 14, .lenS (.tmp 13)⟩,
  ⟨none, some 15, .bin .geq (.tmp 14) (.const (.int .i64 4))⟩])
 (.cond (.tmp 15) .skip (.exit 0)))
 (.seq (.block 1 (.seq (.region [⟨none, some 18, .mv (.tmp 0)⟩,
  ⟨none, some 19, .slc 1 (.tmp 18) none (some (.const (.int .i64 4))) none⟩,
  ⟨none, some 20, .call (.func 21) [(.tmp 19)]⟩,
  ⟨none, some 21, .convI .u32 (.tmp 20)⟩,
  ⟨none, some 4, .mv (.tmp 21)⟩])
 (.seq (.seq (.region [⟨none, some 23, .mv (.tmp 4)⟩,
  ⟨none, some 24, .call (.func 22) [(.tmp 23)]⟩,
  ⟨none, some 22, .mv (.tmp 24)⟩,
  ⟨none, some 25, .ext (.tmp 22) 0⟩,
  ⟨none, some 26, .ext (.tmp 22) 1⟩,
  ⟨none, some 5, .alloc [.int .i64 0, .int .i64 0, .int .i64 0, .int .i64 0, .int .i64 0, .bool false, .bool false, .int .i64 0, .int .i64 0]⟩,
  ⟨none, none, .store 9 (.tmp 5) (.tmp 25)⟩,
  ⟨none, some 6, .mv (.tmp 26)⟩])
 (.seq (.region [⟨none, some 27, .mv (.tmp 6)⟩,
  ⟨none, some 28, .bin .eql (.tmp 27) (.const (.int .i64 0))⟩])
 (.cond (.tmp 28) (.seq (.region [⟨none, some 30, .loadN 9 (.tmp 5)⟩,
  ⟨none, some 31, .call (.func 23) [(.tmp 30)]⟩,
  ⟨none, some 29, .mv (.tmp 31)⟩,
  ⟨none, some 32, .ext (.tmp 29) 0⟩,
  ⟨none, some 33, .ext (.tmp 29) 1⟩,
  ⟨none, some 7, .mv (.tmp 32)⟩,
  ⟨none, some 8, .mv (.tmp 33)⟩])
 (.seq (.region [⟨none, some 34, .mv (.tmp 7)⟩,
  ⟨none, some 35, .mv (.tmp 4)⟩,
  ⟨none, some 36, .bin .eql (.tmp 34) (.tmp 35)⟩])
 (.cond (.tmp 36) (.seq (.region [⟨none, some 38, .loadN 9 (.tmp 5)⟩,
  ⟨none, some 39, .call (.func 24) [(.tmp 38)]⟩,
  ⟨none, some 37, .mv (.tmp 39)⟩,
  ⟨none, some 40, .ext (.tmp 37) 0⟩,
  ⟨none, some 41, .ext (.tmp 37) 1⟩,
  ⟨none, some 9, .mv (.tmp 40)⟩,
  ⟨none, some 10, .mv (.tmp 41)⟩])
 (.seq (.region [⟨none, some 42, .mv (.tmp 3)⟩,
  ⟨none, some 43, .mv (.tmp 9)⟩,
  ⟨none, some 44, .rowM 1 (zeroRow [.string ⟨#[]⟩] 1) [(0, 1, (.tmp 43))]⟩,
  ⟨none, some 45, .app 1 16 (.tmp 42) (.tmp 44)⟩,
  ⟨none, some 3, .mv (.tmp 45)⟩])
 (.exit 1))) .skip))) .skip)))
 (.region [⟨none, some 46, .mv (.tmp 3)⟩,
  ⟨none, some 47, .mv (.tmp 4)⟩,
  ⟨none, some 48, .convI .u64 (.tmp 47)⟩,
  ⟨none, some 49, .call (.func 25) [(.tmp 48), (.const (.int .i64 10))]⟩,
  ⟨none, some 50, .bin .add (.const (.string ⟨#[46, 119, 111, 114, 100, 32]⟩)) (.tmp 49)⟩,
  ⟨none, some 51, .rowM 1 (zeroRow [.string ⟨#[]⟩] 1) [(0, 1, (.tmp 50))]⟩,
  ⟨none, some 52, .app 1 16 (.tmp 46) (.tmp 51)⟩,
  ⟨none, some 3, .mv (.tmp 52)⟩]))))
 (.region [⟨none, some 16, .mv (.tmp 0)⟩,
  ⟨none, some 17, .slc 1 (.tmp 16) (some (.const (.int .i64 4))) none none⟩,
  ⟨none, some 0, .mv (.tmp 17)⟩])))))
 (.seq (.seq (.region [⟨none, some 53, .mv (.tmp 0)⟩,
  ⟨none, some 54, .lenS (.tmp 53)⟩,
  ⟨none, some 55, .mv (.const (.int .i64 0))⟩])
 (.block 2 (.loop (.seq (.region [⟨none, some 56, .bin .lss (.tmp 55) (.tmp 54)⟩])
 (.seq (.cond (.tmp 56) .skip (.exit 2))
 (.seq (.block 3 (.seq (.region [⟨none, some 57, .iadS 1 (.tmp 53) (.tmp 55)⟩,
  ⟨none, some 58, .load1 (.tmp 57)⟩,
  ⟨none, some 12, .mv (.tmp 58)⟩])
 (.region [⟨none, some 59, .mv (.tmp 3)⟩,
  ⟨none, some 60, .mv (.tmp 12)⟩,
  ⟨none, some 61, .convI .i64 (.tmp 60)⟩,
  ⟨none, some 62, .call (.func 26) [(.tmp 61)]⟩,
  ⟨none, some 63, .bin .add (.const (.string ⟨#[46, 98, 121, 116, 101, 32]⟩)) (.tmp 62)⟩,
  ⟨none, some 64, .rowM 1 (zeroRow [.string ⟨#[]⟩] 1) [(0, 1, (.tmp 63))]⟩,
  ⟨none, some 65, .app 1 16 (.tmp 59) (.tmp 64)⟩,
  ⟨none, some 3, .mv (.tmp 65)⟩])))
 (.region [⟨none, some 66, .bin .add (.tmp 55) (.const (.int .i64 1))⟩,
  ⟨none, some 55, .mv (.tmp 66)⟩])))))))
 (.seq (.region [⟨none, some 67, .mv (.tmp 3)⟩,
  ⟨none, some 2, .mv (.tmp 67)⟩])
 .ret)))))),
 [.tmp 2]⟩
theorem c_asm_Lines : compF P0 pf Go.Proofs.Tryz.f10 = some L_asm_Lines := by kernel_rfl
/-- undertow/undertowref10.Lines -/
abbrev n_ref10_Lines : Nat := 11
def L_ref10_Lines : LFn := ⟨58, (.seq (.region [⟨none, some 2, .mv (.const (.slice none 0 0))⟩])
 (.seq (.region [⟨none, some 3, .mv (.const (.slice none 0 0))⟩])
 (.seq (.block 0 (.loop (.seq (.seq (.region [⟨none, some 8, .mv (.tmp 0)⟩,
  ⟨none, some 9, .lenS (.tmp 8)⟩,
  ⟨none, some 10, .bin .geq (.tmp 9) (.const (.int .i64 4))⟩])
 (.cond (.tmp 10) .skip (.exit 0)))
 (.block 1 (.seq (.region [⟨none, some 11, .mv (.tmp 0)⟩,
  ⟨none, some 12, .slc 1 (.tmp 11) none (some (.const (.int .i64 4))) none⟩,
  ⟨none, some 13, .call (.func 27) [(.tmp 12)]⟩,
  ⟨none, some 14, .convI .u32 (.tmp 13)⟩,
  ⟨none, some 4, .mv (.tmp 14)⟩])
 (.seq (.region [⟨none, some 16, .mv (.tmp 4)⟩,
  ⟨none, some 17, .call (.func 28) [(.tmp 16)]⟩,
  ⟨none, some 15, .mv (.tmp 17)⟩,
  ⟨none, some 18, .ext (.tmp 15) 0⟩,
  ⟨none, some 19, .ext (.tmp 15) 1⟩,
  ⟨none, some 5, .alloc [.int .i64 0, .int .i64 0, .int .i64 0, .int .i64 0, .int .i64 0, .bool false, .bool false, .int .i64 0, .int .i64 0]⟩,
  ⟨none, none, .store 9 (.tmp 5) (.tmp 18)⟩,
  ⟨none, some 6, .mv (.tmp 19)⟩])
 (.seq (.seq (.region [⟨none, some 20, .mv (.tmp 6)⟩,
  ⟨none, some 21, .mv (.tmp 20)⟩,
  ⟨some (21, true), some 22, .loadN 9 (.tmp 5)⟩,
  ⟨some (21, true), some 23, .call (.func 29) [(.tmp 22)]⟩,
  ⟨some (21, true), some 24, .mv (.tmp 4)⟩,
  ⟨some (21, true), some 25, .bin .eql (.tmp 23) (.tmp 24)⟩,
  ⟨none, some 26, .pick (.tmp 21) (.tmp 25) (.const (.bool false))⟩])
 (.cond (.tmp 26) (.region [⟨none, some 27, .mv (.tmp 3)⟩,
  ⟨none, some 28, .loadN 9 (.tmp 5)⟩,
  ⟨none, some 29, .call (.func 30) [(.tmp 28)]⟩,
  ⟨none, some 30, .rowM 1 (zeroRow [.string ⟨#[]⟩] 1) [(0, 1, (.tmp 29))]⟩,
  ⟨none, some 31, .app 1 16 (.tmp 27) (.tmp 30)⟩,
  ⟨none, some 3, .mv (.tmp 31)⟩]) (.region [⟨none, some 32, .mv (.tmp 3)⟩,
  ⟨none, some 33, .mv (.tmp 4)⟩,
  ⟨none, some 34, .convI .i64 (.tmp 33)⟩,
  ⟨none, some 35, .call (.func 31) [(.tmp 34)]⟩,
  ⟨none, some 36, .bin .add (.const (.string ⟨#[46, 119, 111, 114, 100, 32]⟩)) (.tmp 35)⟩,
  ⟨none, some 37, .rowM 1 (zeroRow [.string ⟨#[]⟩] 1) [(0, 1, (.tmp 36))]⟩,
  ⟨none, some 38, .app 1 16 (.tmp 32) (.tmp 37)⟩,
  ⟨none, some 3, .mv (.tmp 38)⟩])))
 (.region [⟨none, some 39, .mv (.tmp 0)⟩,
  ⟨none, some 40, .slc 1 (.tmp 39) (some (.const (.int .i64 4))) none none⟩,
  ⟨none, some 0, .mv (.tmp 40)⟩]))))))))
 (.seq (.seq (.region [⟨none, some 7, .mv (.const (.int .i64 0))⟩])
 (.block 2 (.loop (.seq (.seq (.region [⟨none, some 41, .mv (.tmp 7)⟩,
  ⟨none, some 42, .mv (.tmp 0)⟩,
  ⟨none, some 43, .lenS (.tmp 42)⟩,
  ⟨none, some 44, .bin .lss (.tmp 41) (.tmp 43)⟩])
 (.cond (.tmp 44) .skip (.exit 2)))
 (.seq (.block 3 (.region [⟨none, some 47, .mv (.tmp 3)⟩,
  ⟨none, some 48, .mv (.tmp 0)⟩,
  ⟨none, some 49, .mv (.tmp 7)⟩,
  ⟨none, some 50, .iadS 1 (.tmp 48) (.tmp 49)⟩,
  ⟨none, some 51, .load1 (.tmp 50)⟩,
  ⟨none, some 52, .convI .i64 (.tmp 51)⟩,
  ⟨none, some 53, .call (.func 31) [(.tmp 52)]⟩,
  ⟨none, some 54, .bin .add (.const (.string ⟨#[46, 98, 121, 116, 101, 32]⟩)) (.tmp 53)⟩,
  ⟨none, some 55, .rowM 1 (zeroRow [.string ⟨#[]⟩] 1) [(0, 1, (.tmp 54))]⟩,
  ⟨none, some 56, .app 1 16 (.tmp 47) (.tmp 55)⟩,
  ⟨none, some 3, .mv (.tmp 56)⟩]))
 (.region [⟨none, some 45, .mv (.tmp 7)⟩,
  ⟨none, some 46, .bin .add (.tmp 45) (.const (.int .i64 1))⟩,
  ⟨none, some 7, .mv (.tmp 46)⟩]))))))
 (.seq (.region [⟨none, some 57, .mv (.tmp 3)⟩,
  ⟨none, some 2, .mv (.tmp 57)⟩])
 .ret))))),
 [.tmp 2]⟩
theorem c_ref10_Lines : compF P0 pf Go.Proofs.Tryz.f11 = some L_ref10_Lines := by kernel_rfl
/-- undertow/asm.IsName -/
abbrev n_asm_IsName : Nat := 12
def L_asm_IsName : LFn := ⟨46, (.seq (.region [⟨none, some 2, .mv (.const (.bool false))⟩])
 (.seq (.seq (.region [⟨none, some 6, .mv (.tmp 0)⟩,
  ⟨none, some 7, .lenT (.tmp 6)⟩,
  ⟨none, some 8, .mv (.const (.int .i64 0))⟩])
 (.block 0 (.loop (.seq (.region [⟨none, some 9, .bin .lss (.tmp 8) (.tmp 7)⟩])
 (.seq (.cond (.tmp 9) .skip (.exit 0))
 (.seq (.block 1 (.seq (.region [⟨none, some 10, .mv (.tmp 8)⟩,
  ⟨none, some 3, .mv (.tmp 10)⟩])
 (.seq (.region [⟨none, some 11, .mv (.tmp 0)⟩,
  ⟨none, some 12, .mv (.tmp 3)⟩,
  ⟨none, some 13, .ixS (.tmp 11) (.tmp 12)⟩,
  ⟨none, some 4, .mv (.tmp 13)⟩])
 (.seq (.region [⟨none, some 14, .mv (.tmp 4)⟩,
  ⟨none, some 15, .bin .geq (.tmp 14) (.const (.int .u8 97))⟩,
  ⟨none, some 16, .mv (.tmp 15)⟩,
  ⟨some (16, true), some 17, .mv (.tmp 4)⟩,
  ⟨some (16, true), some 18, .bin .leq (.tmp 17) (.const (.int .u8 122))⟩,
  ⟨none, some 19, .pick (.tmp 16) (.tmp 18) (.const (.bool false))⟩,
  ⟨none, some 5, .mv (.tmp 19)⟩])
 (.seq (.region [⟨none, some 20, .mv (.tmp 5)⟩,
  ⟨none, some 21, .un .not (.tmp 20)⟩,
  ⟨none, some 22, .mv (.tmp 21)⟩,
  ⟨some (22, true), some 23, .mv (.tmp 3)⟩,
  ⟨some (22, true), some 24, .bin .eql (.tmp 23) (.const (.int .i64 0))⟩,
  ⟨some (22, true), some 25, .mv (.tmp 24)⟩,
  ⟨some (25, false), some 26, .mv (.tmp 4)⟩,
  ⟨some (25, false), some 27, .bin .neq (.tmp 26) (.const (.int .u8 95))⟩,
  ⟨some (25, false), some 28, .mv (.tmp 27)⟩,
  ⟨some (28, true), some 29, .mv (.tmp 4)⟩,
  ⟨some (28, true), some 30, .bin .lss (.tmp 29) (.const (.int .u8 48))⟩,
  ⟨some (28, true), some 31, .mv (.tmp 30)⟩,
  ⟨some (31, false), some 32, .mv (.tmp 4)⟩,
  ⟨some (31, false), some 33, .bin .gtr (.tmp 32) (.const (.int .u8 57))⟩,
  ⟨some (28, true), some 34, .pick (.tmp 31) (.const (.bool true)) (.tmp 33)⟩,
  ⟨some (25, false), some 35, .pick (.tmp 28) (.tmp 34) (.const (.bool false))⟩,
  ⟨some (22, true), some 36, .pick (.tmp 25) (.const (.bool true)) (.tmp 35)⟩,
  ⟨none, some 37, .pick (.tmp 22) (.tmp 36) (.const (.bool false))⟩])
 (.cond (.tmp 37) (.seq (.region [⟨none, some 2, .mv (.const (.bool false))⟩])
 .ret) .skip))))))
 (.region [⟨none, some 38, .bin .add (.tmp 8) (.const (.int .i64 1))⟩,
  ⟨none, some 8, .mv (.tmp 38)⟩])))))))
 (.seq (.region [⟨none, some 39, .mv (.tmp 0)⟩,
  ⟨none, some 40, .bin .neq (.tmp 39) (.const (.string ⟨#[]⟩))⟩,
  ⟨none, some 41, .mv (.tmp 40)⟩,
  ⟨some (41, true), some 42, .mv (.tmp 0)⟩,
  ⟨some (41, true), some 43, .lenT (.tmp 42)⟩,
  ⟨some (41, true), some 44, .bin .leq (.tmp 43) (.const (.int .i64 16))⟩,
  ⟨none, some 45, .pick (.tmp 41) (.tmp 44) (.const (.bool false))⟩,
  ⟨none, some 2, .mv (.tmp 45)⟩])
 .ret))),
 [.tmp 2]⟩
theorem c_asm_IsName : compF P0 pf Go.Proofs.Tryz.f12 = some L_asm_IsName := by kernel_rfl
/-- undertow/undertowref10.Name -/
abbrev n_ref10_Name : Nat := 13
def L_ref10_Name : LFn := ⟨44, (.seq (.region [⟨none, some 2, .mv (.const (.bool false))⟩])
 (.seq (.seq (.region [⟨none, some 5, .mv (.tmp 0)⟩,
  ⟨none, some 6, .lenT (.tmp 5)⟩,
  ⟨none, some 7, .bin .lss (.tmp 6) (.const (.int .i64 1))⟩,
  ⟨none, some 8, .mv (.tmp 7)⟩,
  ⟨some (8, false), some 9, .mv (.tmp 0)⟩,
  ⟨some (8, false), some 10, .lenT (.tmp 9)⟩,
  ⟨some (8, false), some 11, .bin .gtr (.tmp 10) (.const (.int .i64 16))⟩,
  ⟨none, some 12, .pick (.tmp 8) (.const (.bool true)) (.tmp 11)⟩])
 (.cond (.tmp 12) (.seq (.region [⟨none, some 2, .mv (.const (.bool false))⟩])
 .ret) .skip))
 (.seq (.seq (.region [⟨none, some 3, .mv (.const (.int .i64 0))⟩])
 (.block 0 (.loop (.seq (.seq (.region [⟨none, some 13, .mv (.tmp 3)⟩,
  ⟨none, some 14, .mv (.tmp 0)⟩,
  ⟨none, some 15, .lenT (.tmp 14)⟩,
  ⟨none, some 16, .bin .lss (.tmp 13) (.tmp 15)⟩])
 (.cond (.tmp 16) .skip (.exit 0)))
 (.seq (.block 1 (.seq (.region [⟨none, some 19, .mv (.tmp 0)⟩,
  ⟨none, some 20, .mv (.tmp 3)⟩,
  ⟨none, some 21, .ixS (.tmp 19) (.tmp 20)⟩,
  ⟨none, some 4, .mv (.tmp 21)⟩])
 (.seq (.seq (.region [⟨none, some 22, .mv (.tmp 4)⟩,
  ⟨none, some 23, .bin .geq (.tmp 22) (.const (.int .u8 97))⟩,
  ⟨none, some 24, .mv (.tmp 23)⟩,
  ⟨some (24, true), some 25, .mv (.tmp 4)⟩,
  ⟨some (24, true), some 26, .bin .leq (.tmp 25) (.const (.int .u8 122))⟩,
  ⟨none, some 27, .pick (.tmp 24) (.tmp 26) (.const (.bool false))⟩,
  ⟨none, some 28, .mv (.tmp 27)⟩,
  ⟨some (28, false), some 29, .mv (.tmp 3)⟩,
  ⟨some (28, false), some 30, .bin .gtr (.tmp 29) (.const (.int .i64 0))⟩,
  ⟨some (28, false), some 31, .mv (.tmp 30)⟩,
  ⟨some (31, true), some 32, .mv (.tmp 4)⟩,
  ⟨some (31, true), some 33, .bin .geq (.tmp 32) (.const (.int .u8 48))⟩,
  ⟨some (31, true), some 34, .mv (.tmp 33)⟩,
  ⟨some (34, true), some 35, .mv (.tmp 4)⟩,
  ⟨some (34, true), some 36, .bin .leq (.tmp 35) (.const (.int .u8 57))⟩,
  ⟨some (31, true), some 37, .pick (.tmp 34) (.tmp 36) (.const (.bool false))⟩,
  ⟨some (31, true), some 38, .mv (.tmp 37)⟩,
  ⟨some (38, false), some 39, .mv (.tmp 4)⟩,
  ⟨some (38, false), some 40, .bin .eql (.tmp 39) (.const (.int .u8 95))⟩,
  ⟨some (31, true), some 41, .pick (.tmp 38) (.const (.bool true)) (.tmp 40)⟩,
  ⟨some (28, false), some 42, .pick (.tmp 31) (.tmp 41) (.const (.bool false))⟩,
  ⟨none, some 43, .pick (.tmp 28) (.const (.bool true)) (.tmp 42)⟩])
 (.cond (.tmp 43) (.exit 1) .skip))
 (.seq (.region [⟨none, some 2, .mv (.const (.bool false))⟩])
 .ret))))
 (.region [⟨none, some 17, .mv (.tmp 3)⟩,
  ⟨none, some 18, .bin .add (.tmp 17) (.const (.int .i64 1))⟩,
  ⟨none, some 3, .mv (.tmp 18)⟩]))))))
 (.seq (.region [⟨none, some 2, .mv (.const (.bool true))⟩])
 .ret)))),
 [.tmp 2]⟩
theorem c_ref10_Name : compF P0 pf Go.Proofs.Tryz.f13 = some L_ref10_Name := by kernel_rfl
/-- undertow/asm.Assemble -/
abbrev n_asm_Assemble : Nat := 14
def L_asm_Assemble : LFn := ⟨49, (.seq (.region [⟨none, some 4, .mv (.const (.slice none 0 0))⟩,
  ⟨none, some 5, .mv (.const (.slice none 0 0))⟩,
  ⟨none, some 6, .mv (.const (.int .i64 0))⟩,
  ⟨none, some 7, .mv (.const (.int .i64 0))⟩])
 (.seq (.seq (.region [⟨none, some 12, .mv (.tmp 1)⟩,
  ⟨none, some 13, .bin .lss (.tmp 12) (.const (.int .i64 0))⟩,
  ⟨none, some 14, .mv (.tmp 13)⟩,
  ⟨some (14, false), some 15, .mv (.tmp 1)⟩,
  ⟨some (14, false), some 16, .bin .gtr (.tmp 15) (.const (.int .i64 1024))⟩,
  ⟨none, some 17, .pick (.tmp 14) (.const (.bool true)) (.tmp 16)⟩,
  ⟨none, some 18, .mv (.tmp 17)⟩,
  ⟨some (18, false), some 19, .mv (.tmp 0)⟩,
  ⟨some (18, false), some 20, .lenT (.tmp 19)⟩,
  ⟨some (18, false), some 21, .bin .gtr (.tmp 20) (.const (.int .i64 65536))⟩,
  ⟨none, some 22, .pick (.tmp 18) (.const (.bool true)) (.tmp 21)⟩])
 (.cond (.tmp 22) (.seq (.region [⟨none, some 4, .mv (.const (.slice none 0 0))⟩,
  ⟨none, some 5, .mv (.const (.slice none 0 0))⟩,
  ⟨none, some 6, .mv (.const (.int .i64 0))⟩,
  ⟨none, some 7, .mv (.const (.int .i64 1))⟩])
 .ret) .skip))
 (.seq (.region [⟨none, some 8, .alloc [.slice none 0 0]⟩])
 (.seq (.region [⟨none, some 24, .mv (.tmp 0)⟩,
  ⟨none, some 25, .mv (.tmp 1)⟩,
  ⟨none, some 26, .mkf 33 [] [(.tmp 8)]⟩,
  ⟨none, some 27, .call (.func 32) [(.tmp 24), (.tmp 25), (.tmp 26)]⟩,
  ⟨none, some 23, .mv (.tmp 27)⟩,
  ⟨none, some 28, .ext (.tmp 23) 0⟩,
  ⟨none, some 29, .ext (.tmp 23) 1⟩,
  ⟨none, some 9, .mv (.tmp 28)⟩,
  ⟨none, some 10, .mv (.tmp 29)⟩])
 (.seq (.seq (.region [⟨none, some 30, .mv (.tmp 10)⟩,
  ⟨none, some 31, .bin .neq (.tmp 30) (.const (.int .i64 0))⟩])
 (.cond (.tmp 31) (.seq (.region [⟨none, some 32, .mv (.tmp 9)⟩,
  ⟨none, some 33, .mv (.tmp 10)⟩,
  ⟨none, some 4, .mv (.const (.slice none 0 0))⟩,
  ⟨none, some 5, .mv (.const (.slice none 0 0))⟩,
  ⟨none, some 6, .mv (.tmp 32)⟩,
  ⟨none, some 7, .mv (.tmp 33)⟩])
 .ret) .skip))
 (.seq (.region [⟨none, some 34, .mv (.tmp 1)⟩,
  ⟨none, some 35, .mk 1 1 [.int .u8 0] (.tmp 34) (.tmp 34)⟩,
  ⟨none, some 11, .alloc [.slice none 0 0]⟩,
  ⟨none, none, .store 1 (.tmp 11) (.tmp 35)⟩])
 (.seq (.region [⟨none, some 37, .mv (.tmp 0)⟩,
  ⟨none, some 38, .mv (.tmp 1)⟩,
  ⟨none, some 39, .mkf 35 [] [(.tmp 8), (.tmp 11)]⟩,
  ⟨none, some 40, .call (.func 32) [(.tmp 37), (.tmp 38), (.tmp 39)]⟩,
  ⟨none, some 36, .mv (.tmp 40)⟩,
  ⟨none, some 41, .ext (.tmp 36) 0⟩,
  ⟨none, some 42, .ext (.tmp 36) 1⟩,
  ⟨none, some 9, .mv (.tmp 41)⟩,
  ⟨none, some 10, .mv (.tmp 42)⟩])
 (.seq (.seq (.region [⟨none, some 43, .mv (.tmp 10)⟩,
  ⟨none, some 44, .bin .neq (.tmp 43) (.const (.int .i64 0))⟩])
 (.cond (.tmp 44) (.seq (.region [⟨none, some 45, .mv (.tmp 9)⟩,
  ⟨none, some 46, .mv (.tmp 10)⟩,
  ⟨none, some 4, .mv (.const (.slice none 0 0))⟩,
  ⟨none, some 5, .mv (.const (.slice none 0 0))⟩,
  ⟨none, some 6, .mv (.tmp 45)⟩,
  ⟨none, some 7, .mv (.tmp 46)⟩])
 .ret) .skip))
 (.seq (.region [⟨none, some 47, .load1 (.tmp 11)⟩,
  ⟨none, some 48, .load1 (.tmp 8)⟩,
  ⟨none, some 4, .mv (.tmp 47)⟩,
  ⟨none, some 5, .mv (.tmp 48)⟩,
  ⟨none, some 6, .mv (.const (.int .i64 0))⟩,
  ⟨none, some 7, .mv (.const (.int .i64 0))⟩])
 .ret))))))))),
 [.tmp 4, .tmp 5, .tmp 6, .tmp 7]⟩
theorem c_asm_Assemble : compF P0 pf Go.Proofs.Tryz.f14 = some L_asm_Assemble := by kernel_rfl
/-- undertow/undertowref01.SameBytes -/
abbrev n_ref01_SameBytes : Nat := 15
def L_ref01_SameBytes : LFn := ⟨26, (.seq (.region [⟨none, some 4, .mv (.const (.bool false))⟩])
 (.seq (.seq (.region [⟨none, some 6, .mv (.tmp 0)⟩,
  ⟨none, some 7, .lenS (.tmp 6)⟩,
  ⟨none, some 8, .mv (.tmp 1)⟩,
  ⟨none, some 9, .lenS (.tmp 8)⟩,
  ⟨none, some 10, .bin .neq (.tmp 7) (.tmp 9)⟩])
 (.cond (.tmp 10) (.seq (.region [⟨none, some 4, .mv (.const (.bool false))⟩])
 .ret) .skip))
 (.seq (.seq (.region [⟨none, some 5, .mv (.const (.int .i64 0))⟩])
 (.block 0 (.loop (.seq (.seq (.region [⟨none, some 11, .mv (.tmp 5)⟩,
  ⟨none, some 12, .mv (.tmp 0)⟩,
  ⟨none, some 13, .lenS (.tmp 12)⟩,
  ⟨none, some 14, .bin .lss (.tmp 11) (.tmp 13)⟩])
 (.cond (.tmp 14) .skip (.exit 0)))
 (.seq (.block 1 (.seq (.region [⟨none, some 17, .mv (.tmp 0)⟩,
  ⟨none, some 18, .mv (.tmp 5)⟩,
  ⟨none, some 19, .iadS 1 (.tmp 17) (.tmp 18)⟩,
  ⟨none, some 20, .load1 (.tmp 19)⟩,
  ⟨none, some 21, .mv (.tmp 1)⟩,
  ⟨none, some 22, .mv (.tmp 5)⟩,
  ⟨none, some 23, .iadS 1 (.tmp 21) (.tmp 22)⟩,
  ⟨none, some 24, .load1 (.tmp 23)⟩,
  ⟨none, some 25, .bin .neq (.tmp 20) (.tmp 24)⟩])
 (.cond (.tmp 25) (.seq (.region [⟨none, some 4, .mv (.const (.bool false))⟩])
 .ret) .skip)))
 (.region [⟨none, some 15, .mv (.tmp 5)⟩,
  ⟨none, some 16, .bin .add (.tmp 15) (.const (.int .i64 1))⟩,
  ⟨none, some 5, .mv (.tmp 16)⟩]))))))
 (.seq (.region [⟨none, some 4, .mv (.const (.bool true))⟩])
 .ret)))),
 [.tmp 4]⟩
theorem c_ref01_SameBytes : compF P0 pf Go.Proofs.Tryz.f15 = some L_ref01_SameBytes := by kernel_rfl
/-- undertow/undertowlaw11.alive -/
abbrev n_law11_alive : Nat := 16
def L_law11_alive : LFn := ⟨62, (.seq (.region [⟨none, some 0, .mv (.const (.bool false))⟩])
 (.seq (.region [⟨none, some 9, .call (.func 14) [(.const (.string ⟨#[97, 100, 100, 105, 32, 120, 49, 44, 32, 120, 48, 44, 32, 53, 10, 115, 119, 32, 120, 49, 44, 32, 49, 50, 40, 120, 48, 41, 10, 104, 97, 108, 116, 10, 46, 119, 111, 114, 100, 32, 48]⟩)), (.const (.int .i64 16))]⟩,
  ⟨none, some 8, .mv (.tmp 9)⟩,
  ⟨none, some 10, .ext (.tmp 8) 0⟩,
  ⟨none, some 11, .ext (.tmp 8) 1⟩,
  ⟨none, some 12, .ext (.tmp 8) 2⟩,
  ⟨none, some 13, .ext (.tmp 8) 3⟩,
  ⟨none, some 1, .mv (.tmp 10)⟩,
  ⟨none, some 2, .mv (.tmp 11)⟩,
  ⟨none, some 3, .mv (.tmp 12)⟩,
  ⟨none, some 4, .mv (.tmp 13)⟩])
 (.seq (.region [⟨none, some 15, .build [.int .u64 0, .int .u64 0, .int .u64 0, .int .u64 0, .int .u64 0, .int .u64 0, .int .u64 0, .int .u64 0, .int .u64 0, .int .u64 0, .int .u64 0, .int .u64 0, .int .u64 0, .int .u64 0, .int .u64 0, .int .u64 0, .int .u64 0, .int .u64 0, .int .u64 0, .int .u64 0, .int .u64 0, .int .u64 0, .int .u64 0, .int .u64 0, .int .u64 0, .int .u64 0, .int .u64 0, .int .u64 0, .int .u64 0, .int .u64 0, .int .u64 0, .int .u64 0, .int .u64 0, .int .i64 0] []⟩,
  ⟨none, some 16, .mv (.tmp 1)⟩,
  ⟨none, some 17, .call (.func 18) [(.tmp 15), (.tmp 16), (.const (.int .i64 10))]⟩,
  ⟨none, some 14, .mv (.tmp 17)⟩,
  ⟨none, some 18, .ext (.tmp 14) 0⟩,
  ⟨none, some 19, .ext (.tmp 14) 1⟩,
  ⟨none, some 20, .ext (.tmp 14) 2⟩,
  ⟨none, some 5, .alloc [.int .u64 0, .int .u64 0, .int .u64 0, .int .u64 0, .int .u64 0, .int .u64 0, .int .u64 0, .int .u64 0, .int .u64 0, .int .u64 0, .int .u64 0, .int .u64 0, .int .u64 0, .int .u64 0, .int .u64 0, .int .u64 0, .int .u64 0, .int .u64 0, .int .u64 0, .int .u64 0, .int .u64 0, .int .u64 0, .int .u64 0, .int .u64 0, .int .u64 0, .int .u64 0, .int .u64 0, .int .u64 0, .int .u64 0, .int .u64 0, .int .u64 0, .int .u64 0, .int .u64 0, .int .i64 0]⟩,
  ⟨none, none, .store 34 (.tmp 5) (.tmp 18)⟩,
  ⟨none, some 6, .mv (.tmp 19)⟩,
  ⟨none, some 7, .mv (.tmp 20)⟩])
 (.seq (.region [⟨none, some 21, .mv (.tmp 4)⟩,
  ⟨none, some 22, .bin .eql (.tmp 21) (.const (.int .i64 0))⟩,
  ⟨none, some 23, .mv (.tmp 22)⟩,
  ⟨some (23, true), some 24, .mv (.tmp 7)⟩,
  ⟨some (23, true), some 25, .lenS (.tmp 24)⟩,
  ⟨some (23, true), some 26, .bin .eql (.tmp 25) (.const (.int .i64 3))⟩,
  ⟨none, some 27, .pick (.tmp 23) (.tmp 26) (.const (.bool false))⟩,
  ⟨none, some 28, .mv (.tmp 27)⟩,
  ⟨some (28, true), some 29, .fad 1 (.tmp 5)⟩,
  ⟨some (28, true), some 30, .iadA 32 1 (.tmp 29) (.const (.int .i64 1))⟩,
  ⟨some (28, true), some 31, .load1 (.tmp 30)⟩,
  ⟨some (28, true), some 32, .bin .eql (.tmp 31) (.const (.int .u64 5))⟩,
  ⟨none, some 33, .pick (.tmp 28) (.tmp 32) (.const (.bool false))⟩,
  ⟨none, some 34, .mv (.tmp 33)⟩,
  ⟨some (34, true), some 35, .fad 33 (.tmp 5)⟩,
  ⟨some (34, true), some 36, .load1 (.tmp 35)⟩,
  ⟨some (34, true), some 37, .bin .eql (.tmp 36) (.const (.int .i64 2))⟩,
  ⟨none, some 38, .pick (.tmp 34) (.tmp 37) (.const (.bool false))⟩,
  ⟨none, some 39, .mv (.tmp 38)⟩,
  ⟨some (39, true), some 40, .fad 0 (.tmp 5)⟩,
  ⟨some (39, true), some 41, .load1 (.tmp 40)⟩,
  ⟨some (39, true), some 42, .bin .eql (.tmp 41) (.const (.int .u64 8))⟩,
  ⟨none, some 43, .pick (.tmp 39) (.tmp 42) (.const (.bool false))⟩,
  ⟨none, some 44, .mv (.tmp 43)⟩,
  ⟨some (44, true), some 45, .mv (.tmp 6)⟩,
  ⟨some (44, true), some 46, .lenS (.tmp 45)⟩,
  ⟨some (44, true), some 47, .bin .eql (.tmp 46) (.const (.int .i64 16))⟩,
  ⟨none, some 48, .pick (.tmp 44) (.tmp 47) (.const (.bool false))⟩,
  ⟨none, some 49, .mv (.tmp 48)⟩,
  ⟨some (49, true), some 50, .mv (.tmp 6)⟩,
  ⟨some (49, true), some 51, .iadS 1 (.tmp 50) (.const (.int .i64 12))⟩,
  ⟨some (49, true), some 52, .load1 (.tmp 51)⟩,
  ⟨some (49, true), some 53, .bin .eql (.tmp 52) (.const (.int .u8 5))⟩,
  ⟨none, some 54, .pick (.tmp 49) (.tmp 53) (.const (.bool false))⟩,
  ⟨none, some 55, .mv (.tmp 54)⟩,
  ⟨some (55, true), some 56, .mv (.tmp 7)⟩,
  ⟨some (55, true), some 57, .iadS 16 (.tmp 56) (.const (.int .i64 1))⟩,
  ⟨some (55, true), some 58, .fad 14 (.tmp 57)⟩,
  ⟨some (55, true), some 59, .load1 (.tmp 58)⟩,
  ⟨some (55, true), some 60, .bin .eql (.tmp 59) (.const (.int .u64 5))⟩,
  ⟨none, some 61, .pick (.tmp 55) (.tmp 60) (.const (.bool false))⟩,
  ⟨none, some 0, .mv (.tmp 61)⟩])
 .ret)))),
 [.tmp 0]⟩
theorem c_law11_alive : compF P0 pf Go.Proofs.Tryz.f16 = some L_law11_alive := by kernel_rfl
/-- undertow/seq.Step -/
abbrev n_seq_Step : Nat := 17
def L_seq_Step : LFn := ⟨123, (.seq (.region [⟨none, some 4, .box (.tmp 0)⟩,
  ⟨none, some 8, .alloc [.int .u64 0, .int .u64 0, .int .u64 0, .int .u64 0, .int .u64 0, .int .u64 0, .int .u64 0, .int .u64 0, .int .u64 0, .int .u64 0, .int .u64 0, .int .u64 0, .int .u64 0, .int .u64 0, .int .u64 0, .int .u64 0, .int .u64 0, .int .u64 0, .int .u64 0, .int .u64 0, .int .u64 0, .int .u64 0, .int .u64 0, .int .u64 0, .int .u64 0, .int .u64 0, .int .u64 0, .int .u64 0, .int .u64 0, .int .u64 0, .int .u64 0, .int .u64 0, .int .u64 0, .int .i64 0]⟩,
  ⟨none, some 9, .alloc [.int .u64 0, .int .i64 0, .int .i64 0, .int .i64 0, .int .i64 0, .int .i64 0, .bool false, .bool false, .int .i64 0, .int .i64 0, .int .i64 0, .int .u64 0, .int .u64 0, .int .u64 0, .int .u64 0, .bool false]⟩])
 (.seq (.region [⟨none, some 15, .fad 1 (.tmp 4)⟩,
  ⟨none, some 16, .iadA 32 1 (.tmp 15) (.const (.int .i64 0))⟩,
  ⟨none, none, .store 1 (.tmp 16) (.const (.int .u64 0))⟩])
 (.seq (.seq (.region [⟨none, some 17, .fad 33 (.tmp 4)⟩,
  ⟨none, some 18, .load1 (.tmp 17)⟩,
  ⟨none, some 19, .bin .neq (.tmp 18) (.const (.int .i64 0))⟩])
 (.cond (.tmp 19) (.seq (.region [⟨none, some 20, .loadN 34 (.tmp 4)⟩,
  ⟨none, some 21, .build [.int .u64 0, .int .i64 0, .int .i64 0, .int .i64 0, .int .i64 0, .int .i64 0, .bool false, .bool false, .int .i64 0, .int .i64 0, .int .i64 0, .int .u64 0, .int .u64 0, .int .u64 0, .int .u64 0, .bool false] []⟩,
  ⟨none, none, .store 34 (.tmp 8) (.tmp 20)⟩,
  ⟨none, none, .store 16 (.tmp 9) (.tmp 21)⟩])
 .ret) .skip))
 (.seq (.region [⟨none, some 23, .mv (.tmp 1)⟩,
  ⟨none, some 24, .fad 0 (.tmp 4)⟩,
  ⟨none, some 25, .load1 (.tmp 24)⟩,
  ⟨none, some 26, .call (.func 37) [(.tmp 23), (.tmp 25)]⟩,
  ⟨none, some 22, .mv (.tmp 26)⟩,
  ⟨none, some 27, .ext (.tmp 22) 0⟩,
  ⟨none, some 28, .ext (.tmp 22) 1⟩,
  ⟨none, some 10, .alloc [.int .i64 0, .int .i64 0, .int .i64 0, .int .i64 0, .int .i64 0, .bool false, .bool false, .int .i64 0, .int .i64 0]⟩,
  ⟨none, none, .store 9 (.tmp 10) (.tmp 27)⟩,
  ⟨none, some 11, .mv (.tmp 28)⟩])
 (.seq (.region [⟨none, some 29, .fad 0 (.tmp 4)⟩,
  ⟨none, some 30, .load1 (.tmp 29)⟩,
  ⟨none, some 31, .loadN 9 (.tmp 10)⟩,
  ⟨none, some 32, .mv (.tmp 11)⟩,
  ⟨none, some 33, .build [.int .u64 0, .int .i64 0, .int .i64 0, .int .i64 0, .int .i64 0, .int .i64 0, .bool false, .bool false, .int .i64 0, .int .i64 0, .int .i64 0, .int .u64 0, .int .u64 0, .int .u64 0, .int .u64 0, .bool false] [(0, 1, (.tmp 30)), (1, 9, (.tmp 31)), (10, 1, (.tmp 32))]⟩,
  ⟨none, some 12, .alloc [.int .u64 0, .int .i64 0, .int .i64 0, .int .i64 0, .int .i64 0, .int .i64 0, .bool false, .bool false, .int .i64 0, .int .i64 0, .int .i64 0, .int .u64 0, .int .u64 0, .int .u64 0, .int .u64 0, .bool false]⟩,
  ⟨none, none, .store 16 (.tmp 12) (.tmp 33)⟩])
 (.seq (.seq (.region [⟨none, some 34, .mv (.tmp 11)⟩,
  ⟨none, some 35, .bin .eql (.tmp 34) (.const (.int .i64 0))⟩])
 (.cond (.tmp 35) (.region [⟨none, some 37, .loadN 34 (.tmp 4)⟩,
  ⟨none, some 38, .loadN 9 (.tmp 10)⟩,
  ⟨none, some 39, .mv (.tmp 1)⟩,
  ⟨none, some 40, .lenS (.tmp 39)⟩,
  ⟨none, some 41, .call (.func 38) [(.tmp 37), (.tmp 38), (.tmp 40)]⟩,
  ⟨none, some 36, .mv (.tmp 41)⟩,
  ⟨none, some 42, .ext (.tmp 36) 0⟩,
  ⟨none, some 43, .ext (.tmp 36) 1⟩,
  ⟨none, some 44, .fad 10 (.tmp 12)⟩,
  ⟨none, none, .store 1 (.tmp 44) (.tmp 42)⟩,
  ⟨none, some 45, .fad 12 (.tmp 12)⟩,
  ⟨none, none, .store 1 (.tmp 45) (.tmp 43)⟩]) .skip))
 (.seq (.seq (.region [⟨none, some 46, .fad 10 (.tmp 12)⟩,
  ⟨none, some 47, .load1 (.tmp 46)⟩,
  ⟨none, some 48, .bin .neq (.tmp 47) (.const (.int .i64 0))⟩])
 (.cond (.tmp 48) (.seq (.region [⟨none, some 49, .fad 10 (.tmp 12)⟩,
  ⟨none, some 50, .load1 (.tmp 49)⟩,
  ⟨none, some 51, .fad 33 (.tmp 4)⟩,
  ⟨none, none, .store 1 (.tmp 51) (.tmp 50)⟩])
 (.seq (.regionD [⟨none, some 52, .loadN 34 (.tmp 4)⟩,
  ⟨none, some 53, .loadN 16 (.tmp 12)⟩,
  ⟨none, none, .store 34 (.tmp 8) (.tmp 52)⟩,
  ⟨none, none, .store 16 (.tmp 9) (.tmp 53)⟩] [(1, 2)])
 .ret)) .skip))
 (.seq (.seq (.region [⟨none, some 54, .fad 0 (.tmp 10)⟩,
  ⟨none, some 55, .load1 (.tmp 54)⟩,
  ⟨none, some 56, .call (.func 39) [(.tmp 55)]⟩])
 (.cond (.tmp 56) (.region [⟨none, some 57, .mv (.tmp 2)⟩,
  ⟨none, some 58, .fad 0 (.tmp 10)⟩,
  ⟨none, some 59, .load1 (.tmp 58)⟩,
  ⟨none, some 60, .call (.func 41) [(.tmp 59)]⟩,
  ⟨none, some 61, .bin .mul (.const (.int .i64 8)) (.tmp 60)⟩,
  ⟨none, some 62, .call (.func 40) [(.tmp 57), (.tmp 61)]⟩,
  ⟨none, some 63, .fad 13 (.tmp 12)⟩,
  ⟨none, none, .store 1 (.tmp 63) (.tmp 62)⟩]) .skip))
 (.seq (.region [⟨none, some 64, .mv (.tmp 3)⟩,
  ⟨none, some 65, .mv (.tmp 64)⟩,
  ⟨some (65, true), some 66, .fad 0 (.tmp 10)⟩,
  ⟨some (65, true), some 67, .load1 (.tmp 66)⟩,
  ⟨some (65, true), some 68, .call (.func 42) [(.tmp 67)]⟩,
  ⟨some (65, true), some 69, .bin .eql (.tmp 68) (.const (.int .i64 11))⟩,
  ⟨none, some 70, .pick (.tmp 65) (.tmp 69) (.const (.bool false))⟩,
  ⟨none, some 71, .fad 15 (.tmp 12)⟩,
  ⟨none, none, .store 1 (.tmp 71) (.tmp 70)⟩])
 (.seq (.seq (.region [⟨none, some 72, .fad 0 (.tmp 10)⟩,
  ⟨none, some 73, .load1 (.tmp 72)⟩,
  ⟨none, some 74, .call (.func 43) [(.tmp 73)]⟩,
  ⟨none, some 75, .mv (.tmp 74)⟩,
  ⟨some (75, true), some 76, .fad 15 (.tmp 12)⟩,
  ⟨some (75, true), some 77, .load1 (.tmp 76)⟩,
  ⟨some (75, true), some 78, .un .not (.tmp 77)⟩,
  ⟨none, some 79, .pick (.tmp 75) (.tmp 78) (.const (.bool false))⟩])
 (.cond (.tmp 79) (.region [⟨none, some 80, .fad 0 (.tmp 10)⟩,
  ⟨none, some 81, .load1 (.tmp 80)⟩,
  ⟨none, some 82, .mv (.tmp 2)⟩,
  ⟨none, some 83, .fad 3 (.tmp 10)⟩,
  ⟨none, some 84, .load1 (.tmp 83)⟩,
  ⟨none, some 85, .fad 1 (.tmp 4)⟩,
  ⟨none, some 86, .iadA 32 1 (.tmp 85) (.tmp 84)⟩,
  ⟨none, some 87, .load1 (.tmp 86)⟩,
  ⟨none, some 88, .call (.func 44) [(.tmp 81), (.tmp 82), (.tmp 87)]⟩,
  ⟨none, some 89, .fad 14 (.tmp 12)⟩,
  ⟨none, none, .store 1 (.tmp 89) (.tmp 88)⟩]) .skip))
 (.seq (.region [⟨none, some 90, .loadN 9 (.tmp 10)⟩,
  ⟨none, some 91, .fad 0 (.tmp 4)⟩,
  ⟨none, some 92, .load1 (.tmp 91)⟩,
  ⟨none, some 93, .fad 2 (.tmp 10)⟩,
  ⟨none, some 94, .load1 (.tmp 93)⟩,
  ⟨none, some 95, .fad 1 (.tmp 4)⟩,
  ⟨none, some 96, .iadA 32 1 (.tmp 95) (.tmp 94)⟩,
  ⟨none, some 97, .load1 (.tmp 96)⟩,
  ⟨none, some 98, .fad 3 (.tmp 10)⟩,
  ⟨none, some 99, .load1 (.tmp 98)⟩,
  ⟨none, some 100, .fad 1 (.tmp 4)⟩,
  ⟨none, some 101, .iadA 32 1 (.tmp 100) (.tmp 99)⟩,
  ⟨none, some 102, .load1 (.tmp 101)⟩,
  ⟨none, some 103, .call (.func 45) [(.tmp 90), (.tmp 92), (.tmp 97), (.tmp 102)]⟩,
  ⟨none, some 13, .mv (.tmp 103)⟩])
 (.seq (.seq (.region [⟨none, some 104, .loadN 9 (.tmp 10)⟩,
  ⟨none, some 105, .call (.func 46) [(.tmp 104)]⟩,
  ⟨none, some 14, .mv (.tmp 105)⟩])
 (.seq (.region [⟨none, some 106, .mv (.tmp 14)⟩,
  ⟨none, some 107, .bin .gtr (.tmp 106) (.const (.int .i64 0))⟩])
 (.cond (.tmp 107) (.seq (.region [⟨none, some 108, .loadN 34 (.tmp 4)⟩,
  ⟨none, some 109, .loadN 9 (.tmp 10)⟩,
  ⟨none, some 110, .mv (.tmp 2)⟩,
  ⟨none, some 111, .mv (.tmp 3)⟩,
  ⟨none, some 112, .call (.func 47) [(.tmp 108), (.tmp 109), (.tmp 110), (.tmp 111)]⟩,
  ⟨none, some 113, .fad 11 (.tmp 12)⟩,
  ⟨none, none, .store 1 (.tmp 113) (.tmp 112)⟩])
 (.region [⟨none, some 114, .mv (.tmp 14)⟩,
  ⟨none, some 115, .fad 11 (.tmp 12)⟩,
  ⟨none, some 116, .load1 (.tmp 115)⟩,
  ⟨none, some 117, .fad 1 (.tmp 4)⟩,
  ⟨none, some 118, .iadA 32 1 (.tmp 117) (.tmp 114)⟩,
  ⟨none, none, .store 1 (.tmp 118) (.tmp 116)⟩])) .skip)))
 (.seq (.region [⟨none, some 119, .mv (.tmp 13)⟩,
  ⟨none, some 120, .fad 0 (.tmp 4)⟩,
  ⟨none, none, .store 1 (.tmp 120) (.tmp 119)⟩])
 (.seq (.regionD [⟨none, some 121, .loadN 34 (.tmp 4)⟩,
  ⟨none, some 122, .loadN 16 (.tmp 12)⟩,
  ⟨none, none, .store 34 (.tmp 8) (.tmp 121)⟩,
  ⟨none, none, .store 16 (.tmp 9) (.tmp 122)⟩] [(1, 2)])
 .ret)))))))))))))),
 [.cellN 8 34, .cellN 9 16]⟩
theorem c_seq_Step : compF P0 pf Go.Proofs.Tryz.f17 = some L_seq_Step := by kernel_rfl
/-- undertow/seq.Alone -/
abbrev n_seq_Alone : Nat := 18
def L_seq_Alone : LFn := ⟨57, (.seq (.region [⟨none, some 3, .box (.tmp 0)⟩,
  ⟨none, some 6, .alloc [.int .u64 0, .int .u64 0, .int .u64 0, .int .u64 0, .int .u64 0, .int .u64 0, .int .u64 0, .int .u64 0, .int .u64 0, .int .u64 0, .int .u64 0, .int .u64 0, .int .u64 0, .int .u64 0, .int .u64 0, .int .u64 0, .int .u64 0, .int .u64 0, .int .u64 0, .int .u64 0, .int .u64 0, .int .u64 0, .int .u64 0, .int .u64 0, .int .u64 0, .int .u64 0, .int .u64 0, .int .u64 0, .int .u64 0, .int .u64 0, .int .u64 0, .int .u64 0, .int .u64 0, .int .i64 0]⟩,
  ⟨none, some 7, .mv (.const (.slice none 0 0))⟩,
  ⟨none, some 8, .mv (.const (.slice none 0 0))⟩])
 (.seq (.region [⟨none, some 14, .fad 1 (.tmp 3)⟩,
  ⟨none, some 15, .iadA 32 1 (.tmp 14) (.const (.int .i64 0))⟩,
  ⟨none, none, .store 1 (.tmp 15) (.const (.int .u64 0))⟩])
 (.seq (.region [⟨none, some 16, .mv (.tmp 1)⟩,
  ⟨none, some 17, .call (.func 48) [(.tmp 16)]⟩,
  ⟨none, some 18, .build [.slice none 0 0, .int .i64 0, .int .i64 0, .bool false] [(0, 1, (.tmp 17))]⟩,
  ⟨none, some 19, .box (.tmp 18)⟩,
  ⟨none, some 9, .mv (.tmp 19)⟩])
 (.seq (.region [⟨none, some 10, .mv (.const (.slice none 0 0))⟩])
 (.seq .skip
 (.seq (.seq (.region [⟨none, some 20, .mv (.tmp 2)⟩,
  ⟨none, some 21, .mn (.tmp 20) (.const (.int .i64 100000))⟩,
  ⟨none, some 22, .mx (.const (.int .i64 0)) (.tmp 21)⟩,
  ⟨none, some 23, .mv (.const (.int .i64 0))⟩])
 (.block 0 (.loop (.seq (.region [⟨none, some 24, .bin .lss (.tmp 23) (.tmp 22)⟩])
 (.seq (.cond (.tmp 24) .skip (.exit 0))
 (.seq (.block 1 (.seq (.seq (.region [⟨none, some 25, .fad 33 (.tmp 3)⟩,
  ⟨none, some 26, .load1 (.tmp 25)⟩,
  ⟨none, some 27, .bin .neq (.tmp 26) (.const (.int .i64 0))⟩])
 (.cond (.tmp 27) (.exit 0) .skip))
 (.seq (.region [⟨none, some 29, .mv (.tmp 9)⟩,
  ⟨none, some 30, .loadN 34 (.tmp 3)⟩,
  ⟨none, some 31, .mv (.tmp 1)⟩,
  ⟨none, some 32, .call (.func 49) [(.tmp 29), (.tmp 30), (.tmp 31)]⟩,
  ⟨none, some 28, .mv (.tmp 32)⟩,
  ⟨none, some 33, .ext (.tmp 28) 0⟩,
  ⟨none, some 34, .ext (.tmp 28) 1⟩,
  ⟨none, some 11, .mv (.tmp 33)⟩,
  ⟨none, some 12, .mv (.tmp 34)⟩])
 (.seq (.region [⟨none, some 13, .alloc [.int .u64 0, .int .i64 0, .int .i64 0, .int .i64 0, .int .i64 0, .int .i64 0, .bool false, .bool false, .int .i64 0, .int .i64 0, .int .i64 0, .int .u64 0, .int .u64 0, .int .u64 0, .int .u64 0, .bool false]⟩])
 (.seq (.region [⟨none, some 36, .loadN 34 (.tmp 3)⟩,
  ⟨none, some 37, .mv (.tmp 1)⟩,
  ⟨none, some 38, .mv (.tmp 11)⟩,
  ⟨none, some 39, .mv (.tmp 12)⟩,
  ⟨none, some 40, .call (.func 17) [(.tmp 36), (.tmp 37), (.tmp 38), (.tmp 39)]⟩,
  ⟨none, some 35, .mv (.tmp 40)⟩,
  ⟨none, some 41, .ext (.tmp 35) 0⟩,
  ⟨none, some 42, .ext (.tmp 35) 1⟩,
  ⟨none, none, .store 34 (.tmp 3) (.tmp 41)⟩,
  ⟨none, none, .store 16 (.tmp 13) (.tmp 42)⟩])
 (.seq (.region [⟨none, some 43, .mv (.tmp 9)⟩,
  ⟨none, some 44, .loadN 16 (.tmp 13)⟩,
  ⟨none, some 45, .call (.func 50) [(.tmp 43), (.tmp 44)]⟩])
 (.region [⟨none, some 46, .mv (.tmp 10)⟩,
  ⟨none, some 47, .loadN 16 (.tmp 13)⟩,
  ⟨none, some 48, .rowM 1 (zeroRow [.int .u64 0, .int .i64 0, .int .i64 0, .int .i64 0, .int .i64 0, .int .i64 0, .bool false, .bool false, .int .i64 0, .int .i64 0, .int .i64 0, .int .u64 0, .int .u64 0, .int .u64 0, .int .u64 0, .bool false] 16) [(0, 16, (.tmp 47))]⟩,
  ⟨none, some 49, .app 16 120 (.tmp 46) (.tmp 48)⟩,
  ⟨none, some 10, .mv (.tmp 49)⟩])))))))
 (.region [⟨none, some 50, .bin .add (.tmp 23) (.const (.int .i64 1))⟩,
  ⟨none, some 23, .mv (.tmp 50)⟩])))))))
 (.seq (.regionD [⟨none, some 51, .loadN 34 (.tmp 3)⟩,
  ⟨none, some 52, .mv (.tmp 9)⟩,
  ⟨none, some 53, .nilchk (.tmp 52)⟩,
  ⟨none, some 54, .fad 0 (.tmp 53)⟩,
  ⟨none, some 55, .load1 (.tmp 54)⟩,
  ⟨none, some 56, .mv (.tmp 10)⟩,
  ⟨none, none, .store 34 (.tmp 6) (.tmp 51)⟩,
  ⟨none, some 7, .mv (.tmp 55)⟩,
  ⟨none, some 8, .mv (.tmp 56)⟩] [(4, 6)])
 .ret))))))),
 [.cellN 6 34, .tmp 7, .tmp 8]⟩
theorem c_seq_Alone : compF P0 pf Go.Proofs.Tryz.f18 = some L_seq_Alone := by kernel_rfl
/-- undertow/undertowref05.Size -/
abbrev n_ref05_Size : Nat := 19
def L_ref05_Size : LFn := ⟨39, (.seq (.region [⟨none, some 2, .mv (.const (.int .i64 0))⟩])
 (.seq (.region [⟨none, some 6, .mv (.tmp 0)⟩,
  ⟨none, some 7, .call (.func 51) [(.tmp 6)]⟩,
  ⟨none, some 3, .mv (.tmp 7)⟩])
 (.seq (.region [⟨none, some 8, .mv (.tmp 0)⟩,
  ⟨none, some 9, .call (.func 52) [(.tmp 8)]⟩,
  ⟨none, some 4, .mv (.tmp 9)⟩])
 (.seq (.seq (.region [⟨none, some 10, .mv (.tmp 4)⟩,
  ⟨none, some 11, .bin .lss (.tmp 10) (.const (.int .i64 4))⟩,
  ⟨none, some 12, .mv (.tmp 11)⟩,
  ⟨some (12, false), some 13, .mv (.tmp 4)⟩,
  ⟨some (12, false), some 14, .bin .gtr (.tmp 13) (.const (.int .i64 5))⟩,
  ⟨some (12, false), some 15, .mv (.tmp 14)⟩,
  ⟨some (15, true), some 16, .mv (.tmp 4)⟩,
  ⟨some (15, true), some 17, .bin .lss (.tmp 16) (.const (.int .i64 10))⟩,
  ⟨some (12, false), some 18, .pick (.tmp 15) (.tmp 17) (.const (.bool false))⟩,
  ⟨none, some 19, .pick (.tmp 12) (.const (.bool true)) (.tmp 18)⟩])
 (.cond (.tmp 19) (.seq (.region [⟨none, some 2, .mv (.const (.int .i64 0))⟩])
 .ret) .skip))
 (.seq (.region [⟨none, some 20, .mv (.tmp 3)⟩,
  ⟨none, some 21, .mv (.tmp 3)⟩,
  ⟨none, some 22, .lenT (.tmp 21)⟩,
  ⟨none, some 23, .bin .sub (.tmp 22) (.const (.int .i64 1))⟩,
  ⟨none, some 24, .ixS (.tmp 20) (.tmp 23)⟩,
  ⟨none, some 5, .mv (.tmp 24)⟩])
 (.seq (.seq (.region [⟨none, some 25, .mv (.tmp 5)⟩,
  ⟨none, some 26, .bin .eql (.tmp 25) (.const (.int .u8 117))⟩])
 (.cond (.tmp 26) (.region [⟨none, some 27, .mv (.tmp 3)⟩,
  ⟨none, some 28, .mv (.tmp 3)⟩,
  ⟨none, some 29, .lenT (.tmp 28)⟩,
  ⟨none, some 30, .bin .sub (.tmp 29) (.const (.int .i64 2))⟩,
  ⟨none, some 31, .ixS (.tmp 27) (.tmp 30)⟩,
  ⟨none, some 5, .mv (.tmp 31)⟩]) .skip))
 (.seq (.seq (.region [⟨none, some 32, .mv (.tmp 5)⟩])
 (.block 0 (.seq (.region [⟨none, some 34, .bin .eql (.tmp 32) (.const (.int .u8 98))⟩,
  ⟨none, some 33, .mv (.tmp 34)⟩])
 (.cond (.tmp 33) (.seq (.region [⟨none, some 2, .mv (.const (.int .i64 1))⟩])
 .ret) (.seq (.region [⟨none, some 36, .bin .eql (.tmp 32) (.const (.int .u8 104))⟩,
  ⟨none, some 35, .mv (.tmp 36)⟩])
 (.cond (.tmp 35) (.seq (.region [⟨none, some 2, .mv (.const (.int .i64 2))⟩])
 .ret) (.seq (.region [⟨none, some 38, .bin .eql (.tmp 32) (.const (.int .u8 119))⟩,
  ⟨none, some 37, .mv (.tmp 38)⟩])
 (.cond (.tmp 37) (.seq (.region [⟨none, some 2, .mv (.const (.int .i64 4))⟩])
 .ret) .skip))))))))
 (.seq (.region [⟨none, some 2, .mv (.const (.int .i64 8))⟩])
 .ret)))))))),
 [.tmp 2]⟩
theorem c_ref05_Size : compF P0 pf Go.Proofs.Tryz.f19 = some L_ref05_Size := by kernel_rfl
/-- undertow/undertowref01.Zext -/
abbrev n_ref01_Zext : Nat := 20
def L_ref01_Zext : LFn := ⟨28, (.seq (.region [⟨none, some 4, .mv (.const (.int .u64 0))⟩])
 (.seq (.region [⟨none, some 5, .mv (.const (.int .u64 0))⟩])
 (.seq (.seq (.region [⟨none, some 6, .mv (.const (.int .i64 0))⟩])
 (.block 0 (.loop (.seq (.seq (.region [⟨none, some 7, .mv (.tmp 6)⟩,
  ⟨none, some 8, .bin .lss (.tmp 7) (.const (.int .i64 64))⟩,
  ⟨none, some 9, .mv (.tmp 8)⟩,
  ⟨some (9, true), some 10, .mv (.tmp 6)⟩,
  ⟨some (9, true), some 11, .mv (.tmp 1)⟩,
  ⟨some (9, true), some 12, .bin .lss (.tmp 10) (.tmp 11)⟩,
  ⟨none, some 13, .pick (.tmp 9) (.tmp 12) (.const (.bool false))⟩])
 (.cond (.tmp 13) .skip (.exit 0)))
 (.seq (.block 1 (.seq (.region [⟨none, some 16, .mv (.tmp 0)⟩,
  ⟨none, some 17, .mv (.tmp 6)⟩,
  ⟨none, some 18, .convI .u64 (.tmp 17)⟩,
  ⟨none, some 19, .bin .shr (.tmp 16) (.tmp 18)⟩,
  ⟨none, some 20, .bin .and (.tmp 19) (.const (.int .u64 1))⟩,
  ⟨none, some 21, .bin .eql (.tmp 20) (.const (.int .u64 1))⟩])
 (.cond (.tmp 21) (.region [⟨none, some 22, .mv (.tmp 5)⟩,
  ⟨none, some 23, .mv (.tmp 6)⟩,
  ⟨none, some 24, .convI .u64 (.tmp 23)⟩,
  ⟨none, some 25, .bin .shl (.const (.int .u64 1)) (.tmp 24)⟩,
  ⟨none, some 26, .bin .add (.tmp 22) (.tmp 25)⟩,
  ⟨none, some 5, .mv (.tmp 26)⟩]) .skip)))
 (.region [⟨none, some 14, .mv (.tmp 6)⟩,
  ⟨none, some 15, .bin .add (.tmp 14) (.const (.int .i64 1))⟩,
  ⟨none, some 6, .mv (.tmp 15)⟩]))))))
 (.seq (.region [⟨none, some 27, .mv (.tmp 5)⟩,
  ⟨none, some 4, .mv (.tmp 27)⟩])
 .ret)))),
 [.tmp 4]⟩
theorem c_ref01_Zext : compF P0 pf Go.Proofs.Tryz.f20 = some L_ref01_Zext := by kernel_rfl
/-- undertow/word.Of -/
abbrev n_word_Of : Nat := 21
def L_word_Of : LFn := ⟨22, (.seq (.region [⟨none, some 2, .mv (.const (.int .u64 0))⟩])
 (.seq (.region [⟨none, some 3, .mv (.const (.int .u64 0))⟩])
 (.seq (.seq (.region [⟨none, some 5, .mv (.tmp 0)⟩,
  ⟨none, some 6, .lenS (.tmp 5)⟩,
  ⟨none, some 7, .mn (.tmp 6) (.const (.int .i64 8))⟩,
  ⟨none, some 8, .bin .sub (.tmp 7) (.const (.int .i64 1))⟩,
  ⟨none, some 4, .mv (.tmp 8)⟩])
 (.block 0 (.loop (.seq (.seq (.region [⟨none, some 9, .mv (.tmp 4)⟩,
  ⟨none, some 10, .bin .geq (.tmp 9) (.const (.int .i64 0))⟩])
 (.cond (.tmp 10) .skip (.exit 0)))
 (.seq (.block 1 (.region [⟨none, some 13, .mv (.tmp 3)⟩,
  ⟨none, some 14, .bin .shl (.tmp 13) (.const (.int .u64 8))⟩,
  ⟨none, some 15, .mv (.tmp 0)⟩,
  ⟨none, some 16, .mv (.tmp 4)⟩,
  ⟨none, some 17, .iadS 1 (.tmp 15) (.tmp 16)⟩,
  ⟨none, some 18, .load1 (.tmp 17)⟩,
  ⟨none, some 19, .convI .u64 (.tmp 18)⟩,
  ⟨none, some 20, .bin .or (.tmp 14) (.tmp 19)⟩,
  ⟨none, some 3, .mv (.tmp 20)⟩]))
 (.region [⟨none, some 11, .mv (.tmp 4)⟩,
  ⟨none, some 12, .bin .sub (.tmp 11) (.const (.int .i64 1))⟩,
  ⟨none, some 4, .mv (.tmp 12)⟩]))))))
 (.seq (.region [⟨none, some 21, .mv (.tmp 3)⟩,
  ⟨none, some 2, .mv (.tmp 21)⟩])
 .ret)))),
 [.tmp 2]⟩
theorem c_word_Of : compF P0 pf Go.Proofs.Tryz.f21 = some L_word_Of := by kernel_rfl
/-- undertow/decode.Decode -/
abbrev n_decode_Decode : Nat := 22
def L_decode_Decode : LFn := ⟨14, (.seq (.region [⟨none, some 2, .alloc [.int .i64 0, .int .i64 0, .int .i64 0, .int .i64 0, .int .i64 0, .bool false, .bool false, .int .i64 0, .int .i64 0]⟩,
  ⟨none, some 3, .mv (.const (.int .i64 0))⟩])
 (.seq (.region [⟨none, some 5, .mv (.tmp 0)⟩,
  ⟨none, some 6, .call (.func 54) [(.tmp 5)]⟩,
  ⟨none, some 7, .call (.func 53) [(.tmp 6)]⟩,
  ⟨none, some 4, .alloc [.int .i64 0, .int .i64 0, .int .i64 0, .int .i64 0, .int .i64 0, .bool false, .bool false, .int .i64 0, .int .i64 0]⟩,
  ⟨none, none, .store 9 (.tmp 4) (.tmp 7)⟩])
 (.seq (.seq (.region [⟨none, some 8, .fad 0 (.tmp 4)⟩,
  ⟨none, some 9, .load1 (.tmp 8)⟩,
  ⟨none, some 10, .bin .eql (.tmp 9) (.const (.int .i64 0))⟩])
 (.cond (.tmp 10) (.seq (.region [⟨none, some 11, .build [.int .i64 0, .int .i64 0, .int .i64 0, .int .i64 0, .int .i64 0, .bool false, .bool false, .int .i64 0, .int .i64 0] []⟩,
  ⟨none, none, .store 9 (.tmp 2) (.tmp 11)⟩,
  ⟨none, some 3, .mv (.const (.int .i64 2))⟩])
 .ret) .skip))
 (.seq (.region [⟨none, some 12, .loadN 9 (.tmp 4)⟩,
  ⟨none, some 13, .call (.func 55) [(.tmp 12)]⟩,
  ⟨none, none, .store 9 (.tmp 2) (.tmp 13)⟩,
  ⟨none, some 3, .mv (.const (.int .i64 0))⟩])
 .ret)))),
 [.cellN 2 9, .tmp 3]⟩
theorem c_decode_Decode : compF P0 pf Go.Proofs.Tryz.f22 = some L_decode_Decode := by kernel_rfl
/-- undertow/encode.Encode -/
abbrev n_encode_Encode : Nat := 23
def L_encode_Encode : LFn := ⟨53, (.seq (.region [⟨none, some 1, .box (.tmp 0)⟩,
  ⟨none, some 2, .mv (.const (.int .u32 0))⟩,
  ⟨none, some 3, .mv (.const (.int .i64 0))⟩])
 (.seq (.seq (.region [⟨none, some 6, .loadN 9 (.tmp 1)⟩,
  ⟨none, some 7, .call (.func 56) [(.tmp 6)]⟩,
  ⟨none, some 8, .un .not (.tmp 7)⟩])
 (.cond (.tmp 8) (.seq (.region [⟨none, some 2, .mv (.const (.int .u32 0))⟩,
  ⟨none, some 3, .mv (.const (.int .i64 1))⟩])
 .ret) .skip))
 (.seq (.region [⟨none, some 10, .loadN 9 (.tmp 1)⟩,
  ⟨none, some 11, .call (.func 57) [(.tmp 10)]⟩,
  ⟨none, some 9, .mv (.tmp 11)⟩,
  ⟨none, some 12, .ext (.tmp 9) 0⟩,
  ⟨none, some 13, .ext (.tmp 9) 1⟩,
  ⟨none, some 4, .mv (.tmp 12)⟩,
  ⟨none, some 5, .mv (.tmp 13)⟩])
 (.seq (.region [⟨none, some 14, .fad 0 (.tmp 1)⟩,
  ⟨none, some 15, .load1 (.tmp 14)⟩,
  ⟨none, some 16, .call (.func 59) [(.tmp 15)]⟩,
  ⟨none, some 17, .fad 1 (.tmp 1)⟩,
  ⟨none, some 18, .load1 (.tmp 17)⟩,
  ⟨none, some 19, .convI .u32 (.tmp 18)⟩,
  ⟨none, some 20, .bin .shl (.tmp 19) (.const (.int .u64 7))⟩,
  ⟨none, some 21, .fad 0 (.tmp 1)⟩,
  ⟨none, some 22, .load1 (.tmp 21)⟩,
  ⟨none, some 23, .call (.func 60) [(.tmp 22)]⟩,
  ⟨none, some 24, .bin .shl (.tmp 23) (.const (.int .u64 12))⟩,
  ⟨none, some 25, .fad 2 (.tmp 1)⟩,
  ⟨none, some 26, .load1 (.tmp 25)⟩,
  ⟨none, some 27, .convI .u32 (.tmp 26)⟩,
  ⟨none, some 28, .bin .shl (.tmp 27) (.const (.int .u64 15))⟩,
  ⟨none, some 29, .fad 3 (.tmp 1)⟩,
  ⟨none, some 30, .load1 (.tmp 29)⟩,
  ⟨none, some 31, .convI .u32 (.tmp 30)⟩,
  ⟨none, some 32, .bin .shl (.tmp 31) (.const (.int .u64 20))⟩,
  ⟨none, some 33, .fad 0 (.tmp 1)⟩,
  ⟨none, some 34, .load1 (.tmp 33)⟩,
  ⟨none, some 35, .call (.func 61) [(.tmp 34)]⟩,
  ⟨none, some 36, .mv (.tmp 4)⟩,
  ⟨none, some 37, .fad 5 (.tmp 1)⟩,
  ⟨none, some 38, .load1 (.tmp 37)⟩,
  ⟨none, some 39, .call (.func 62) [(.tmp 38), (.const (.int .i64 26))]⟩,
  ⟨none, some 40, .fad 6 (.tmp 1)⟩,
  ⟨none, some 41, .load1 (.tmp 40)⟩,
  ⟨none, some 42, .call (.func 62) [(.tmp 41), (.const (.int .i64 25))]⟩,
  ⟨none, some 43, .fad 7 (.tmp 1)⟩,
  ⟨none, some 44, .load1 (.tmp 43)⟩,
  ⟨none, some 45, .convI .u32 (.tmp 44)⟩,
  ⟨none, some 46, .bin .shl (.tmp 45) (.const (.int .u64 24))⟩,
  ⟨none, some 47, .fad 8 (.tmp 1)⟩,
  ⟨none, some 48, .load1 (.tmp 47)⟩,
  ⟨none, some 49, .convI .u32 (.tmp 48)⟩,
  ⟨none, some 50, .bin .shl (.tmp 49) (.const (.int .u64 20))⟩,
  ⟨none, some 51, .row 1 11 (zeroRow [.int .u32 0] 11) [(0, 1, (.tmp 16)), (1, 1, (.tmp 20)), (2, 1, (.tmp 24)), (3, 1, (.tmp 28)), (4, 1, (.tmp 32)), (5, 1, (.tmp 35)), (6, 1, (.tmp 36)), (7, 1, (.tmp 39)), (8, 1, (.tmp 42)), (9, 1, (.tmp 46)), (10, 1, (.tmp 50))]⟩,
  ⟨none, some 52, .call (.func 58) [(.tmp 51)]⟩,
  ⟨none, some 2, .mv (.tmp 52)⟩,
  ⟨none, some 3, .mv (.const (.int .i64 0))⟩])
 .ret)))),
 [.tmp 2, .tmp 3]⟩
theorem c_encode_Encode : compF P0 pf Go.Proofs.Tryz.f23 = some L_encode_Encode := by kernel_rfl
/-- undertow/show.Text -/
abbrev n_show_Text : Nat := 24
def L_show_Text : LFn := ⟨9, (.seq (.region [⟨none, some 1, .box (.tmp 0)⟩,
  ⟨none, some 2, .mv (.const (.string ⟨#[]⟩))⟩,
  ⟨none, some 3, .mv (.const (.int .i64 0))⟩])
 (.seq (.seq (.region [⟨none, some 4, .loadN 9 (.tmp 1)⟩,
  ⟨none, some 5, .call (.func 56) [(.tmp 4)]⟩,
  ⟨none, some 6, .un .not (.tmp 5)⟩])
 (.cond (.tmp 6) (.seq (.region [⟨none, some 2, .mv (.const (.string ⟨#[]⟩))⟩,
  ⟨none, some 3, .mv (.const (.int .i64 1))⟩])
 .ret) .skip))
 (.seq (.region [⟨none, some 7, .loadN 9 (.tmp 1)⟩,
  ⟨none, some 8, .call (.func 63) [(.tmp 7)]⟩,
  ⟨none, some 2, .mv (.tmp 8)⟩,
  ⟨none, some 3, .mv (.const (.int .i64 0))⟩])
 .ret))),
 [.tmp 2, .tmp 3]⟩
theorem c_show_Text : compF P0 pf Go.Proofs.Tryz.f24 = some L_show_Text := by kernel_rfl
/-- strconv.FormatUint -/
abbrev n_strconv_FormatUint : Nat := 25
def L_strconv_FormatUint : LFn := ⟨8, (.seq (.region [⟨none, some 4, .mv (.const (.string ⟨#[]⟩))⟩])
 (.seq (.region [⟨none, some 5, .mv (.tmp 0)⟩,
  ⟨none, some 6, .mv (.tmp 1)⟩,
  ⟨none, some 7, .call (.func 64) [(.tmp 5), (.tmp 6)]⟩,
  ⟨none, some 4, .mv (.tmp 7)⟩])
 .ret)),
 [.tmp 4]⟩
theorem c_strconv_FormatUint : compF P0 pf Go.Proofs.Tryz.f25 = some L_strconv_FormatUint := by kernel_rfl
/-- undertow/undertowref01.Of -/
abbrev n_ref01_Of : Nat := 27
def L_ref01_Of : LFn := ⟨28, (.seq (.region [⟨none, some 2, .mv (.const (.int .u64 0))⟩])
 (.seq (.region [⟨none, some 3, .mv (.const (.int .u64 0))⟩])
 (.seq (.region [⟨none, some 4, .mv (.const (.int .u64 1))⟩])
 (.seq (.seq (.region [⟨none, some 5, .mv (.const (.int .i64 0))⟩])
 (.block 0 (.loop (.seq (.seq (.region [⟨none, some 6, .mv (.tmp 5)⟩,
  ⟨none, some 7, .mv (.tmp 0)⟩,
  ⟨none, some 8, .lenS (.tmp 7)⟩,
  ⟨none, some 9, .bin .lss (.tmp 6) (.tmp 8)⟩,
  ⟨none, some 10, .mv (.tmp 9)⟩,
  ⟨some (10, true), some 11, .mv (.tmp 5)⟩,
  ⟨some (10, true), some 12, .bin .lss (.tmp 11) (.const (.int .i64 8))⟩,
  ⟨none, some 13, .pick (.tmp 10) (.tmp 12) (.const (.bool false))⟩])
 (.cond (.tmp 13) .skip (.exit 0)))
 (.seq (.block 1 (.seq (.region [⟨none, some 16, .mv (.tmp 3)⟩,
  ⟨none, some 17, .mv (.tmp 4)⟩,
  ⟨none, some 18, .mv (.tmp 0)⟩,
  ⟨none, some 19, .mv (.tmp 5)⟩,
  ⟨none, some 20, .iadS 1 (.tmp 18) (.tmp 19)⟩,
  ⟨none, some 21, .load1 (.tmp 20)⟩,
  ⟨none, some 22, .convI .u64 (.tmp 21)⟩,
  ⟨none, some 23, .bin .mul (.tmp 17) (.tmp 22)⟩,
  ⟨none, some 24, .bin .add (.tmp 16) (.tmp 23)⟩,
  ⟨none, some 3, .mv (.tmp 24)⟩])
 (.region [⟨none, some 25, .mv (.tmp 4)⟩,
  ⟨none, some 26, .bin .mul (.tmp 25) (.const (.int .u64 256))⟩,
  ⟨none, some 4, .mv (.tmp 26)⟩])))
 (.region [⟨none, some 14, .mv (.tmp 5)⟩,
  ⟨none, some 15, .bin .add (.tmp 14) (.const (.int .i64 1))⟩,
  ⟨none, some 5, .mv (.tmp 15)⟩]))))))
 (.seq (.region [⟨none, some 27, .mv (.tmp 3)⟩,
  ⟨none, some 2, .mv (.tmp 27)⟩])
 .ret))))),
 [.tmp 2]⟩
theorem c_ref01_Of : compF P0 pf Go.Proofs.Tryz.f27 = some L_ref01_Of := by kernel_rfl
/-- undertow/undertowref06.Decode -/
abbrev n_ref06_Decode : Nat := 28
def L_ref06_Decode : LFn := ⟨92, (.seq (.region [⟨none, some 2, .alloc [.int .i64 0, .int .i64 0, .int .i64 0, .int .i64 0, .int .i64 0, .bool false, .bool false, .int .i64 0, .int .i64 0]⟩,
  ⟨none, some 3, .mv (.const (.bool false))⟩])
 (.seq (.seq (.region [⟨none, some 4, .mv (.const (.int .i64 1))⟩])
 (.block 0 (.loop (.seq (.seq (.region [⟨none, some 6, .mv (.tmp 4)⟩,
  ⟨none, some 7, .bin .leq (.tmp 6) (.const (.int .i64 75))⟩])
 (.cond (.tmp 7) .skip (.exit 0)))
 (.seq (.block 1 (.seq (.seq (.region [⟨none, some 10, .mv (.tmp 0)⟩,
  ⟨none, some 11, .mv (.tmp 4)⟩,
  ⟨none, some 12, .call (.func 66) [(.tmp 10), (.tmp 11)]⟩,
  ⟨none, some 13, .un .not (.tmp 12)⟩])
 (.cond (.tmp 13) (.exit 1) .skip))
 (.seq (.region [⟨none, some 14, .mv (.tmp 4)⟩,
  ⟨none, some 15, .build [.int .i64 0, .int .i64 0, .int .i64 0, .int .i64 0, .int .i64 0, .bool false, .bool false, .int .i64 0, .int .i64 0] [(0, 1, (.tmp 14))]⟩,
  ⟨none, some 5, .alloc [.int .i64 0, .int .i64 0, .int .i64 0, .int .i64 0, .int .i64 0, .bool false, .bool false, .int .i64 0, .int .i64 0]⟩,
  ⟨none, none, .store 9 (.tmp 5) (.tmp 15)⟩])
 (.seq (.seq (.region [⟨none, some 16, .mv (.tmp 4)⟩,
  ⟨none, some 17, .call (.func 67) [(.tmp 16)]⟩])
 (.cond (.tmp 17) (.region [⟨none, some 18, .mv (.tmp 0)⟩,
  ⟨none, some 19, .bin .shr (.tmp 18) (.const (.int .u64 7))⟩,
  ⟨none, some 20, .bin .rem (.tmp 19) (.const (.int .u32 32))⟩,
  ⟨none, some 21, .convI .i64 (.tmp 20)⟩,
  ⟨none, some 22, .fad 1 (.tmp 5)⟩,
  ⟨none, none, .store 1 (.tmp 22) (.tmp 21)⟩]) .skip))
 (.seq (.seq (.region [⟨none, some 23, .mv (.tmp 4)⟩,
  ⟨none, some 24, .call (.func 68) [(.tmp 23)]⟩])
 (.cond (.tmp 24) (.region [⟨none, some 25, .mv (.tmp 0)⟩,
  ⟨none, some 26, .bin .shr (.tmp 25) (.const (.int .u64 15))⟩,
  ⟨none, some 27, .bin .rem (.tmp 26) (.const (.int .u32 32))⟩,
  ⟨none, some 28, .convI .i64 (.tmp 27)⟩,
  ⟨none, some 29, .fad 2 (.tmp 5)⟩,
  ⟨none, none, .store 1 (.tmp 29) (.tmp 28)⟩]) .skip))
 (.seq (.seq (.region [⟨none, some 30, .mv (.tmp 4)⟩,
  ⟨none, some 31, .call (.func 69) [(.tmp 30)]⟩])
 (.cond (.tmp 31) (.region [⟨none, some 32, .mv (.tmp 0)⟩,
  ⟨none, some 33, .bin .shr (.tmp 32) (.const (.int .u64 20))⟩,
  ⟨none, some 34, .bin .rem (.tmp 33) (.const (.int .u32 32))⟩,
  ⟨none, some 35, .convI .i64 (.tmp 34)⟩,
  ⟨none, some 36, .fad 3 (.tmp 5)⟩,
  ⟨none, none, .store 1 (.tmp 36) (.tmp 35)⟩]) .skip))
 (.seq (.seq (.region [⟨none, some 37, .mv (.tmp 4)⟩,
  ⟨none, some 38, .call (.func 70) [(.tmp 37)]⟩,
  ⟨none, some 39, .bin .gtr (.tmp 38) (.const (.int .i64 0))⟩])
 (.cond (.tmp 39) (.region [⟨none, some 40, .mv (.tmp 4)⟩,
  ⟨none, some 41, .call (.func 70) [(.tmp 40)]⟩,
  ⟨none, some 42, .mv (.tmp 0)⟩,
  ⟨none, some 43, .call (.func 71) [(.tmp 41), (.tmp 42)]⟩,
  ⟨none, some 44, .fad 4 (.tmp 5)⟩,
  ⟨none, none, .store 1 (.tmp 44) (.tmp 43)⟩]) .skip))
 (.seq (.seq (.region [⟨none, some 45, .mv (.tmp 4)⟩,
  ⟨none, some 46, .call (.func 72) [(.tmp 45)]⟩,
  ⟨none, some 47, .bin .eql (.tmp 46) (.const (.int .i64 6))⟩])
 (.cond (.tmp 47) (.region [⟨none, some 48, .mv (.tmp 0)⟩,
  ⟨none, some 49, .bin .shr (.tmp 48) (.const (.int .u64 20))⟩,
  ⟨none, some 50, .bin .rem (.tmp 49) (.const (.int .u32 64))⟩,
  ⟨none, some 51, .convI .i64 (.tmp 50)⟩,
  ⟨none, some 52, .fad 4 (.tmp 5)⟩,
  ⟨none, none, .store 1 (.tmp 52) (.tmp 51)⟩]) .skip))
 (.seq (.seq (.region [⟨none, some 53, .mv (.tmp 4)⟩,
  ⟨none, some 54, .call (.func 72) [(.tmp 53)]⟩,
  ⟨none, some 55, .bin .eql (.tmp 54) (.const (.int .i64 5))⟩])
 (.cond (.tmp 55) (.region [⟨none, some 56, .mv (.tmp 0)⟩,
  ⟨none, some 57, .bin .shr (.tmp 56) (.const (.int .u64 20))⟩,
  ⟨none, some 58, .bin .rem (.tmp 57) (.const (.int .u32 32))⟩,
  ⟨none, some 59, .convI .i64 (.tmp 58)⟩,
  ⟨none, some 60, .fad 4 (.tmp 5)⟩,
  ⟨none, none, .store 1 (.tmp 60) (.tmp 59)⟩]) .skip))
 (.seq (.seq (.region [⟨none, some 61, .mv (.tmp 4)⟩,
  ⟨none, some 62, .call (.func 52) [(.tmp 61)]⟩,
  ⟨none, some 63, .bin .geq (.tmp 62) (.const (.int .i64 10))⟩])
 (.cond (.tmp 63) (.seq (.region [⟨none, some 64, .mv (.tmp 0)⟩,
  ⟨none, some 65, .bin .shr (.tmp 64) (.const (.int .u64 26))⟩,
  ⟨none, some 66, .bin .rem (.tmp 65) (.const (.int .u32 2))⟩,
  ⟨none, some 67, .bin .eql (.tmp 66) (.const (.int .u32 1))⟩,
  ⟨none, some 68, .fad 5 (.tmp 5)⟩,
  ⟨none, none, .store 1 (.tmp 68) (.tmp 67)⟩])
 (.region [⟨none, some 69, .mv (.tmp 0)⟩,
  ⟨none, some 70, .bin .shr (.tmp 69) (.const (.int .u64 25))⟩,
  ⟨none, some 71, .bin .rem (.tmp 70) (.const (.int .u32 2))⟩,
  ⟨none, some 72, .bin .eql (.tmp 71) (.const (.int .u32 1))⟩,
  ⟨none, some 73, .fad 6 (.tmp 5)⟩,
  ⟨none, none, .store 1 (.tmp 73) (.tmp 72)⟩])) .skip))
 (.seq (.seq (.region [⟨none, some 74, .mv (.tmp 4)⟩,
  ⟨none, some 75, .bin .eql (.tmp 74) (.const (.int .i64 50))⟩])
 (.cond (.tmp 75) (.seq (.region [⟨none, some 76, .mv (.tmp 0)⟩,
  ⟨none, some 77, .bin .shr (.tmp 76) (.const (.int .u64 24))⟩,
  ⟨none, some 78, .bin .rem (.tmp 77) (.const (.int .u32 16))⟩,
  ⟨none, some 79, .convI .i64 (.tmp 78)⟩,
  ⟨none, some 80, .fad 7 (.tmp 5)⟩,
  ⟨none, none, .store 1 (.tmp 80) (.tmp 79)⟩])
 (.region [⟨none, some 81, .mv (.tmp 0)⟩,
  ⟨none, some 82, .bin .shr (.tmp 81) (.const (.int .u64 20))⟩,
  ⟨none, some 83, .bin .rem (.tmp 82) (.const (.int .u32 16))⟩,
  ⟨none, some 84, .convI .i64 (.tmp 83)⟩,
  ⟨none, some 85, .fad 8 (.tmp 5)⟩,
  ⟨none, none, .store 1 (.tmp 85) (.tmp 84)⟩])) .skip))
 (.seq (.seq (.region [⟨none, some 86, .mv (.tmp 4)⟩,
  ⟨none, some 87, .bin .eql (.tmp 86) (.const (.int .i64 51))⟩])
 (.cond (.tmp 87) (.seq (.region [⟨none, some 88, .fad 7 (.tmp 5)⟩,
  ⟨none, none, .store 1 (.tmp 88) (.const (.int .i64 3))⟩])
 (.region [⟨none, some 89, .fad 8 (.tmp 5)⟩,
  ⟨none, none, .store 1 (.tmp 89) (.const (.int .i64 3))⟩])) .skip))
 (.seq (.region [⟨none, some 90, .loadN 9 (.tmp 5)⟩,
  ⟨none, none, .store 9 (.tmp 2) (.tmp 90)⟩,
  ⟨none, some 3, .mv (.const (.bool true))⟩])
 .ret)))))))))))))
 (.region [⟨none, some 8, .mv (.tmp 4)⟩,
  ⟨none, some 9, .bin .add (.tmp 8) (.const (.int .i64 1))⟩,
  ⟨none, some 4, .mv (.tmp 9)⟩]))))))
 (.seq (.region [⟨none, some 91, .build [.int .i64 0, .int .i64 0, .int .i64 0, .int .i64 0, .int .i64 0, .bool false, .bool false, .int .i64 0, .int .i64 0] []⟩,
  ⟨none, none, .store 9 (.tmp 2) (.tmp 91)⟩,
  ⟨none, some 3, .mv (.const (.bool false))⟩])
 .ret))),
 [.cellN 2 9, .tmp 3]⟩
theorem c_ref06_Decode : compF P0 pf Go.Proofs.Tryz.f28 = some L_ref06_Decode := by kernel_rfl
/-- undertow/undertowref07.Word -/
abbrev n_ref07_Word : Nat := 29
def L_ref07_Word : LFn := ⟨101, (.seq (.region [⟨none, some 1, .box (.tmp 0)⟩,
  ⟨none, some 2, .mv (.const (.int .u32 0))⟩])
 (.seq (.region [⟨none, some 6, .fad 0 (.tmp 1)⟩,
  ⟨none, some 7, .load1 (.tmp 6)⟩,
  ⟨none, some 8, .call (.func 52) [(.tmp 7)]⟩,
  ⟨none, some 3, .mv (.tmp 8)⟩])
 (.seq (.region [⟨none, some 9, .fad 0 (.tmp 1)⟩,
  ⟨none, some 10, .load1 (.tmp 9)⟩,
  ⟨none, some 11, .call (.func 73) [(.tmp 10)]⟩,
  ⟨none, some 12, .fad 1 (.tmp 1)⟩,
  ⟨none, some 13, .load1 (.tmp 12)⟩,
  ⟨none, some 14, .convI .u32 (.tmp 13)⟩,
  ⟨none, some 15, .bin .mul (.tmp 14) (.const (.int .u32 128))⟩,
  ⟨none, some 16, .bin .add (.tmp 11) (.tmp 15)⟩,
  ⟨none, some 17, .fad 0 (.tmp 1)⟩,
  ⟨none, some 18, .load1 (.tmp 17)⟩,
  ⟨none, some 19, .call (.func 74) [(.tmp 18)]⟩,
  ⟨none, some 20, .bin .mul (.tmp 19) (.const (.int .u32 4096))⟩,
  ⟨none, some 21, .bin .add (.tmp 16) (.tmp 20)⟩,
  ⟨none, some 22, .fad 2 (.tmp 1)⟩,
  ⟨none, some 23, .load1 (.tmp 22)⟩,
  ⟨none, some 24, .convI .u32 (.tmp 23)⟩,
  ⟨none, some 25, .bin .mul (.tmp 24) (.const (.int .u32 32768))⟩,
  ⟨none, some 26, .bin .add (.tmp 21) (.tmp 25)⟩,
  ⟨none, some 27, .fad 3 (.tmp 1)⟩,
  ⟨none, some 28, .load1 (.tmp 27)⟩,
  ⟨none, some 29, .convI .u32 (.tmp 28)⟩,
  ⟨none, some 30, .bin .mul (.tmp 29) (.const (.int .u32 1048576))⟩,
  ⟨none, some 31, .bin .add (.tmp 26) (.tmp 30)⟩,
  ⟨none, some 4, .mv (.tmp 31)⟩])
 (.seq (.seq (.region [⟨none, some 32, .fad 0 (.tmp 1)⟩,
  ⟨none, some 33, .load1 (.tmp 32)⟩,
  ⟨none, some 34, .call (.func 75) [(.tmp 33)]⟩])
 (.cond (.tmp 34) (.region [⟨none, some 35, .mv (.tmp 4)⟩,
  ⟨none, some 36, .bin .add (.tmp 35) (.const (.int .u32 1073741824))⟩,
  ⟨none, some 4, .mv (.tmp 36)⟩]) .skip))
 (.seq (.seq (.region [⟨none, some 37, .fad 0 (.tmp 1)⟩,
  ⟨none, some 38, .load1 (.tmp 37)⟩,
  ⟨none, some 39, .call (.func 72) [(.tmp 38)]⟩,
  ⟨none, some 40, .bin .gtr (.tmp 39) (.const (.int .i64 0))⟩])
 (.cond (.tmp 40) (.region [⟨none, some 41, .mv (.tmp 4)⟩,
  ⟨none, some 42, .fad 4 (.tmp 1)⟩,
  ⟨none, some 43, .load1 (.tmp 42)⟩,
  ⟨none, some 44, .convI .u32 (.tmp 43)⟩,
  ⟨none, some 45, .bin .mul (.tmp 44) (.const (.int .u32 1048576))⟩,
  ⟨none, some 46, .bin .add (.tmp 41) (.tmp 45)⟩,
  ⟨none, some 4, .mv (.tmp 46)⟩]) .skip))
 (.seq (.seq (.region [⟨none, some 47, .fad 0 (.tmp 1)⟩,
  ⟨none, some 48, .load1 (.tmp 47)⟩,
  ⟨none, some 49, .call (.func 70) [(.tmp 48)]⟩,
  ⟨none, some 5, .mv (.tmp 49)⟩])
 (.seq (.region [⟨none, some 50, .mv (.tmp 5)⟩,
  ⟨none, some 51, .bin .gtr (.tmp 50) (.const (.int .i64 0))⟩])
 (.cond (.tmp 51) (.region [⟨none, some 52, .mv (.tmp 4)⟩,
  ⟨none, some 53, .mv (.tmp 5)⟩,
  ⟨none, some 54, .fad 4 (.tmp 1)⟩,
  ⟨none, some 55, .load1 (.tmp 54)⟩,
  ⟨none, some 56, .call (.func 76) [(.tmp 53), (.tmp 55)]⟩,
  ⟨none, some 57, .bin .add (.tmp 52) (.tmp 56)⟩,
  ⟨none, some 4, .mv (.tmp 57)⟩]) .skip)))
 (.seq (.block 0 (.seq (.region [⟨none, some 59, .mv (.tmp 3)⟩,
  ⟨none, some 60, .bin .geq (.tmp 59) (.const (.int .i64 10))⟩,
  ⟨none, some 58, .mv (.tmp 60)⟩])
 (.cond (.tmp 58) (.seq (.region [⟨none, some 61, .mv (.tmp 4)⟩,
  ⟨none, some 62, .fad 0 (.tmp 1)⟩,
  ⟨none, some 63, .load1 (.tmp 62)⟩,
  ⟨none, some 64, .call (.func 77) [(.tmp 63)]⟩,
  ⟨none, some 65, .bin .mul (.tmp 64) (.const (.int .u32 134217728))⟩,
  ⟨none, some 66, .bin .add (.tmp 61) (.tmp 65)⟩,
  ⟨none, some 4, .mv (.tmp 66)⟩])
 (.seq (.seq (.region [⟨none, some 67, .fad 5 (.tmp 1)⟩,
  ⟨none, some 68, .load1 (.tmp 67)⟩])
 (.cond (.tmp 68) (.region [⟨none, some 69, .mv (.tmp 4)⟩,
  ⟨none, some 70, .bin .add (.tmp 69) (.const (.int .u32 67108864))⟩,
  ⟨none, some 4, .mv (.tmp 70)⟩]) .skip))
 (.seq (.region [⟨none, some 71, .fad 6 (.tmp 1)⟩,
  ⟨none, some 72, .load1 (.tmp 71)⟩])
 (.cond (.tmp 72) (.region [⟨none, some 73, .mv (.tmp 4)⟩,
  ⟨none, some 74, .bin .add (.tmp 73) (.const (.int .u32 33554432))⟩,
  ⟨none, some 4, .mv (.tmp 74)⟩]) .skip)))) (.seq (.region [⟨none, some 76, .fad 0 (.tmp 1)⟩,
  ⟨none, some 77, .load1 (.tmp 76)⟩,
  ⟨none, some 78, .bin .eql (.tmp 77) (.const (.int .i64 50))⟩,
  ⟨none, some 75, .mv (.tmp 78)⟩])
 (.cond (.tmp 75) (.region [⟨none, some 79, .mv (.tmp 4)⟩,
  ⟨none, some 80, .fad 7 (.tmp 1)⟩,
  ⟨none, some 81, .load1 (.tmp 80)⟩,
  ⟨none, some 82, .convI .u32 (.tmp 81)⟩,
  ⟨none, some 83, .bin .mul (.tmp 82) (.const (.int .u32 16777216))⟩,
  ⟨none, some 84, .bin .add (.tmp 79) (.tmp 83)⟩,
  ⟨none, some 85, .fad 8 (.tmp 1)⟩,
  ⟨none, some 86, .load1 (.tmp 85)⟩,
  ⟨none, some 87, .convI .u32 (.tmp 86)⟩,
  ⟨none, some 88, .bin .mul (.tmp 87) (.const (.int .u32 1048576))⟩,
  ⟨none, some 89, .bin .add (.tmp 84) (.tmp 88)⟩,
  ⟨none, some 4, .mv (.tmp 89)⟩]) (.seq (.region [⟨none, some 91, .fad 0 (.tmp 1)⟩,
  ⟨none, some 92, .load1 (.tmp 91)⟩,
  ⟨none, some 93, .bin .eql (.tmp 92) (.const (.int .i64 51))⟩,
  ⟨none, some 90, .mv (.tmp 93)⟩])
 (.cond (.tmp 90) (.seq (.region [⟨none, some 2, .mv (.const (.int .u32 2200961039))⟩])
 .ret) (.seq (.region [⟨none, some 95, .fad 0 (.tmp 1)⟩,
  ⟨none, some 96, .load1 (.tmp 95)⟩,
  ⟨none, some 97, .bin .eql (.tmp 96) (.const (.int .i64 53))⟩,
  ⟨none, some 94, .mv (.tmp 97)⟩])
 (.cond (.tmp 94) (.region [⟨none, some 98, .mv (.tmp 4)⟩,
  ⟨none, some 99, .bin .add (.tmp 98) (.const (.int .u32 1048576))⟩,
  ⟨none, some 4, .mv (.tmp 99)⟩]) .skip)))))))))
 (.seq (.region [⟨none, some 100, .mv (.tmp 4)⟩,
  ⟨none, some 2, .mv (.tmp 100)⟩])
 .ret)))))))),
 [.tmp 2]⟩
theorem c_ref07_Word : compF P0 pf Go.Proofs.Tryz.f29 = some L_ref07_Word := by kernel_rfl
/-- undertow/undertowref09.Text -/
abbrev n_ref09_Text : Nat := 30
def L_ref09_Text : LFn := ⟨173, (.seq (.region [⟨none, some 1, .box (.tmp 0)⟩,
  ⟨none, some 2, .mv (.const (.string ⟨#[]⟩))⟩])
 (.seq (.region [⟨none, some 9, .fad 0 (.tmp 1)⟩,
  ⟨none, some 10, .load1 (.tmp 9)⟩,
  ⟨none, some 11, .call (.func 52) [(.tmp 10)]⟩,
  ⟨none, some 3, .mv (.tmp 11)⟩])
 (.seq (.region [⟨none, some 12, .fad 0 (.tmp 1)⟩,
  ⟨none, some 13, .load1 (.tmp 12)⟩,
  ⟨none, some 14, .call (.func 51) [(.tmp 13)]⟩,
  ⟨none, some 4, .mv (.tmp 14)⟩])
 (.seq (.seq (.region [⟨none, some 15, .fad 5 (.tmp 1)⟩,
  ⟨none, some 16, .load1 (.tmp 15)⟩,
  ⟨none, some 17, .mv (.tmp 16)⟩,
  ⟨some (17, false), some 18, .fad 6 (.tmp 1)⟩,
  ⟨some (17, false), some 19, .load1 (.tmp 18)⟩,
  ⟨none, some 20, .pick (.tmp 17) (.const (.bool true)) (.tmp 19)⟩])
 (.cond (.tmp 20) (.region [⟨none, some 21, .mv (.tmp 4)⟩,
  ⟨none, some 22, .bin .add (.tmp 21) (.const (.string ⟨#[46]⟩))⟩,
  ⟨none, some 4, .mv (.tmp 22)⟩]) .skip))
 (.seq (.seq (.region [⟨none, some 23, .fad 5 (.tmp 1)⟩,
  ⟨none, some 24, .load1 (.tmp 23)⟩])
 (.cond (.tmp 24) (.region [⟨none, some 25, .mv (.tmp 4)⟩,
  ⟨none, some 26, .bin .add (.tmp 25) (.const (.string ⟨#[97, 113]⟩))⟩,
  ⟨none, some 4, .mv (.tmp 26)⟩]) .skip))
 (.seq (.seq (.region [⟨none, some 27, .fad 6 (.tmp 1)⟩,
  ⟨none, some 28, .load1 (.tmp 27)⟩])
 (.cond (.tmp 28) (.region [⟨none, some 29, .mv (.tmp 4)⟩,
  ⟨none, some 30, .bin .add (.tmp 29) (.const (.string ⟨#[114, 108]⟩))⟩,
  ⟨none, some 4, .mv (.tmp 30)⟩]) .skip))
 (.seq (.region [⟨none, some 31, .fad 1 (.tmp 1)⟩,
  ⟨none, some 32, .load1 (.tmp 31)⟩,
  ⟨none, some 33, .call (.func 31) [(.tmp 32)]⟩,
  ⟨none, some 34, .bin .add (.const (.string ⟨#[120]⟩)) (.tmp 33)⟩,
  ⟨none, some 35, .fad 2 (.tmp 1)⟩,
  ⟨none, some 36, .load1 (.tmp 35)⟩,
  ⟨none, some 37, .call (.func 31) [(.tmp 36)]⟩,
  ⟨none, some 38, .bin .add (.const (.string ⟨#[120]⟩)) (.tmp 37)⟩,
  ⟨none, some 39, .fad 3 (.tmp 1)⟩,
  ⟨none, some 40, .load1 (.tmp 39)⟩,
  ⟨none, some 41, .call (.func 31) [(.tmp 40)]⟩,
  ⟨none, some 42, .bin .add (.const (.string ⟨#[120]⟩)) (.tmp 41)⟩,
  ⟨none, some 43, .fad 4 (.tmp 1)⟩,
  ⟨none, some 44, .load1 (.tmp 43)⟩,
  ⟨none, some 45, .call (.func 31) [(.tmp 44)]⟩,
  ⟨none, some 5, .mv (.tmp 34)⟩,
  ⟨none, some 6, .mv (.tmp 38)⟩,
  ⟨none, some 7, .mv (.tmp 42)⟩,
  ⟨none, some 8, .mv (.tmp 45)⟩])
 (.seq (.block 0 (.seq (.region [⟨none, some 47, .mv (.tmp 3)⟩,
  ⟨none, some 48, .bin .eql (.tmp 47) (.const (.int .i64 1))⟩,
  ⟨none, some 49, .mv (.tmp 48)⟩,
  ⟨some (49, false), some 50, .fad 0 (.tmp 1)⟩,
  ⟨some (49, false), some 51, .load1 (.tmp 50)⟩,
  ⟨some (49, false), some 52, .bin .eql (.tmp 51) (.const (.int .i64 3))⟩,
  ⟨none, some 53, .pick (.tmp 49) (.const (.bool true)) (.tmp 52)⟩,
  ⟨none, some 46, .mv (.tmp 53)⟩])
 (.cond (.tmp 46) (.seq (.region [⟨none, some 54, .mv (.tmp 4)⟩,
  ⟨none, some 55, .bin .add (.tmp 54) (.const (.string ⟨#[32]⟩))⟩,
  ⟨none, some 56, .mv (.tmp 5)⟩,
  ⟨none, some 57, .bin .add (.tmp 55) (.tmp 56)⟩,
  ⟨none, some 58, .bin .add (.tmp 57) (.const (.string ⟨#[44, 32]⟩))⟩,
  ⟨none, some 59, .mv (.tmp 8)⟩,
  ⟨none, some 60, .bin .add (.tmp 58) (.tmp 59)⟩,
  ⟨none, some 2, .mv (.tmp 60)⟩])
 .ret) (.seq (.region [⟨none, some 62, .mv (.tmp 3)⟩,
  ⟨none, some 63, .bin .eql (.tmp 62) (.const (.int .i64 2))⟩,
  ⟨none, some 64, .mv (.tmp 63)⟩,
  ⟨some (64, false), some 65, .mv (.tmp 3)⟩,
  ⟨some (64, false), some 66, .bin .eql (.tmp 65) (.const (.int .i64 6))⟩,
  ⟨none, some 67, .pick (.tmp 64) (.const (.bool true)) (.tmp 66)⟩,
  ⟨none, some 61, .mv (.tmp 67)⟩])
 (.cond (.tmp 61) (.seq (.region [⟨none, some 68, .mv (.tmp 4)⟩,
  ⟨none, some 69, .bin .add (.tmp 68) (.const (.string ⟨#[32]⟩))⟩,
  ⟨none, some 70, .mv (.tmp 5)⟩,
  ⟨none, some 71, .bin .add (.tmp 69) (.tmp 70)⟩,
  ⟨none, some 72, .bin .add (.tmp 71) (.const (.string ⟨#[44, 32]⟩))⟩,
  ⟨none, some 73, .mv (.tmp 6)⟩,
  ⟨none, some 74, .bin .add (.tmp 72) (.tmp 73)⟩,
  ⟨none, some 75, .bin .add (.tmp 74) (.const (.string ⟨#[44, 32]⟩))⟩,
  ⟨none, some 76, .mv (.tmp 8)⟩,
  ⟨none, some 77, .bin .add (.tmp 75) (.tmp 76)⟩,
  ⟨none, some 2, .mv (.tmp 77)⟩])
 .ret) (.seq (.region [⟨none, some 79, .mv (.tmp 3)⟩,
  ⟨none, some 80, .bin .eql (.tmp 79) (.const (.int .i64 3))⟩,
  ⟨none, some 78, .mv (.tmp 80)⟩])
 (.cond (.tmp 78) (.seq (.region [⟨none, some 81, .mv (.tmp 4)⟩,
  ⟨none, some 82, .bin .add (.tmp 81) (.const (.string ⟨#[32]⟩))⟩,
  ⟨none, some 83, .mv (.tmp 6)⟩,
  ⟨none, some 84, .bin .add (.tmp 82) (.tmp 83)⟩,
  ⟨none, some 85, .bin .add (.tmp 84) (.const (.string ⟨#[44, 32]⟩))⟩,
  ⟨none, some 86, .mv (.tmp 7)⟩,
  ⟨none, some 87, .bin .add (.tmp 85) (.tmp 86)⟩,
  ⟨none, some 88, .bin .add (.tmp 87) (.const (.string ⟨#[44, 32]⟩))⟩,
  ⟨none, some 89, .mv (.tmp 8)⟩,
  ⟨none, some 90, .bin .add (.tmp 88) (.tmp 89)⟩,
  ⟨none, some 2, .mv (.tmp 90)⟩])
 .ret) (.seq (.region [⟨none, some 92, .mv (.tmp 3)⟩,
  ⟨none, some 93, .bin .eql (.tmp 92) (.const (.int .i64 4))⟩,
  ⟨none, some 91, .mv (.tmp 93)⟩])
 (.cond (.tmp 91) (.seq (.region [⟨none, some 94, .mv (.tmp 4)⟩,
  ⟨none, some 95, .bin .add (.tmp 94) (.const (.string ⟨#[32]⟩))⟩,
  ⟨none, some 96, .mv (.tmp 5)⟩,
  ⟨none, some 97, .bin .add (.tmp 95) (.tmp 96)⟩,
  ⟨none, some 98, .bin .add (.tmp 97) (.const (.string ⟨#[44, 32]⟩))⟩,
  ⟨none, some 99, .mv (.tmp 8)⟩,
  ⟨none, some 100, .bin .add (.tmp 98) (.tmp 99)⟩,
  ⟨none, some 101, .bin .add (.tmp 100) (.const (.string ⟨#[40]⟩))⟩,
  ⟨none, some 102, .mv (.tmp 6)⟩,
  ⟨none, some 103, .bin .add (.tmp 101) (.tmp 102)⟩,
  ⟨none, some 104, .bin .add (.tmp 103) (.const (.string ⟨#[41]⟩))⟩,
  ⟨none, some 2, .mv (.tmp 104)⟩])
 .ret) (.seq (.region [⟨none, some 106, .mv (.tmp 3)⟩,
  ⟨none, some 107, .bin .eql (.tmp 106) (.const (.int .i64 5))⟩,
  ⟨none, some 105, .mv (.tmp 107)⟩])
 (.cond (.tmp 105) (.seq (.region [⟨none, some 108, .mv (.tmp 4)⟩,
  ⟨none, some 109, .bin .add (.tmp 108) (.const (.string ⟨#[32]⟩))⟩,
  ⟨none, some 110, .mv (.tmp 7)⟩,
  ⟨none, some 111, .bin .add (.tmp 109) (.tmp 110)⟩,
  ⟨none, some 112, .bin .add (.tmp 111) (.const (.string ⟨#[44, 32]⟩))⟩,
  ⟨none, some 113, .mv (.tmp 8)⟩,
  ⟨none, some 114, .bin .add (.tmp 112) (.tmp 113)⟩,
  ⟨none, some 115, .bin .add (.tmp 114) (.const (.string ⟨#[40]⟩))⟩,
  ⟨none, some 116, .mv (.tmp 6)⟩,
  ⟨none, some 117, .bin .add (.tmp 115) (.tmp 116)⟩,
  ⟨none, some 118, .bin .add (.tmp 117) (.const (.string ⟨#[41]⟩))⟩,
  ⟨none, some 2, .mv (.tmp 118)⟩])
 .ret) (.seq (.region [⟨none, some 120, .mv (.tmp 3)⟩,
  ⟨none, some 121, .bin .eql (.tmp 120) (.const (.int .i64 7))⟩,
  ⟨none, some 119, .mv (.tmp 121)⟩])
 (.cond (.tmp 119) (.seq (.region [⟨none, some 122, .mv (.tmp 4)⟩,
  ⟨none, some 123, .bin .add (.tmp 122) (.const (.string ⟨#[32]⟩))⟩,
  ⟨none, some 124, .mv (.tmp 5)⟩,
  ⟨none, some 125, .bin .add (.tmp 123) (.tmp 124)⟩,
  ⟨none, some 126, .bin .add (.tmp 125) (.const (.string ⟨#[44, 32]⟩))⟩,
  ⟨none, some 127, .mv (.tmp 6)⟩,
  ⟨none, some 128, .bin .add (.tmp 126) (.tmp 127)⟩,
  ⟨none, some 129, .bin .add (.tmp 128) (.const (.string ⟨#[44, 32]⟩))⟩,
  ⟨none, some 130, .mv (.tmp 7)⟩,
  ⟨none, some 131, .bin .add (.tmp 129) (.tmp 130)⟩,
  ⟨none, some 2, .mv (.tmp 131)⟩])
 .ret) (.seq (.region [⟨none, some 133, .fad 0 (.tmp 1)⟩,
  ⟨none, some 134, .load1 (.tmp 133)⟩,
  ⟨none, some 135, .bin .eql (.tmp 134) (.const (.int .i64 50))⟩,
  ⟨none, some 132, .mv (.tmp 135)⟩])
 (.cond (.tmp 132) (.seq (.region [⟨none, some 136, .mv (.tmp 4)⟩,
  ⟨none, some 137, .bin .add (.tmp 136) (.const (.string ⟨#[32]⟩))⟩,
  ⟨none, some 138, .fad 7 (.tmp 1)⟩,
  ⟨none, some 139, .load1 (.tmp 138)⟩,
  ⟨none, some 140, .call (.func 78) [(.tmp 139)]⟩,
  ⟨none, some 141, .bin .add (.tmp 137) (.tmp 140)⟩,
  ⟨none, some 142, .bin .add (.tmp 141) (.const (.string ⟨#[44, 32]⟩))⟩,
  ⟨none, some 143, .fad 8 (.tmp 1)⟩,
  ⟨none, some 144, .load1 (.tmp 143)⟩,
  ⟨none, some 145, .call (.func 78) [(.tmp 144)]⟩,
  ⟨none, some 146, .bin .add (.tmp 142) (.tmp 145)⟩,
  ⟨none, some 2, .mv (.tmp 146)⟩])
 .ret) (.seq (.region [⟨none, some 148, .mv (.tmp 3)⟩,
  ⟨none, some 149, .bin .eql (.tmp 148) (.const (.int .i64 10))⟩,
  ⟨none, some 147, .mv (.tmp 149)⟩])
 (.cond (.tmp 147) (.seq (.region [⟨none, some 150, .mv (.tmp 4)⟩,
  ⟨none, some 151, .bin .add (.tmp 150) (.const (.string ⟨#[32]⟩))⟩,
  ⟨none, some 152, .mv (.tmp 5)⟩,
  ⟨none, some 153, .bin .add (.tmp 151) (.tmp 152)⟩,
  ⟨none, some 154, .bin .add (.tmp 153) (.const (.string ⟨#[44, 32, 40]⟩))⟩,
  ⟨none, some 155, .mv (.tmp 6)⟩,
  ⟨none, some 156, .bin .add (.tmp 154) (.tmp 155)⟩,
  ⟨none, some 157, .bin .add (.tmp 156) (.const (.string ⟨#[41]⟩))⟩,
  ⟨none, some 2, .mv (.tmp 157)⟩])
 .ret) (.seq (.region [⟨none, some 159, .mv (.tmp 3)⟩,
  ⟨none, some 160, .bin .gtr (.tmp 159) (.const (.int .i64 10))⟩,
  ⟨none, some 158, .mv (.tmp 160)⟩])
 (.cond (.tmp 158) (.seq (.region [⟨none, some 161, .mv (.tmp 4)⟩,
  ⟨none, some 162, .bin .add (.tmp 161) (.const (.string ⟨#[32]⟩))⟩,
  ⟨none, some 163, .mv (.tmp 5)⟩,
  ⟨none, some 164, .bin .add (.tmp 162) (.tmp 163)⟩,
  ⟨none, some 165, .bin .add (.tmp 164) (.const (.string ⟨#[44, 32]⟩))⟩,
  ⟨none, some 166, .mv (.tmp 7)⟩,
  ⟨none, some 167, .bin .add (.tmp 165) (.tmp 166)⟩,
  ⟨none, some 168, .bin .add (.tmp 167) (.const (.string ⟨#[44, 32, 40]⟩))⟩,
  ⟨none, some 169, .mv (.tmp 6)⟩,
  ⟨none, some 170, .bin .add (.tmp 168) (.tmp 169)⟩,
  ⟨none, some 171, .bin .add (.tmp 170) (.const (.string ⟨#[41]⟩))⟩,
  ⟨none, some 2, .mv (.tmp 171)⟩])
 .ret) .skip)))))))))))))))))))
 (.seq (.region [⟨none, some 172, .mv (.tmp 4)⟩,
  ⟨none, some 2, .mv (.tmp 172)⟩])
 .ret))))))))),
 [.tmp 2]⟩
theorem c_ref09_Text : compF P0 pf Go.Proofs.Tryz.f30 = some L_ref09_Text := by kernel_rfl
/-- undertow/undertowref09.Digits -/
abbrev n_ref09_Digits : Nat := 31
def L_ref09_Digits : LFn := ⟨28, (.seq (.region [⟨none, some 2, .mv (.const (.string ⟨#[]⟩))⟩])
 (.seq (.region [⟨none, some 3, .mv (.const (.string ⟨#[]⟩))⟩])
 (.seq (.region [⟨none, some 5, .mv (.tmp 0)⟩,
  ⟨none, some 6, .convI .u64 (.tmp 5)⟩,
  ⟨none, some 4, .mv (.tmp 6)⟩])
 (.seq (.seq (.region [⟨none, some 7, .mv (.tmp 0)⟩,
  ⟨none, some 8, .bin .lss (.tmp 7) (.const (.int .i64 0))⟩])
 (.cond (.tmp 8) (.region [⟨none, some 9, .mv (.tmp 4)⟩,
  ⟨none, some 10, .un .neg (.tmp 9)⟩,
  ⟨none, some 4, .mv (.tmp 10)⟩]) .skip))
 (.seq (.block 0 (.loop (.block 1 (.seq (.region [⟨none, some 11, .mv (.tmp 4)⟩,
  ⟨none, some 12, .bin .rem (.tmp 11) (.const (.int .u64 10))⟩,
  ⟨none, some 13, .bin .add (.const (.int .u64 48)) (.tmp 12)⟩,
  ⟨none, some 14, .convI .u8 (.tmp 13)⟩,
  ⟨none, some 15, .row 1 1 (zeroRow [.int .u8 0] 1) [(0, 1, (.tmp 14))]⟩,
  ⟨none, some 16, .b2s (.tmp 15)⟩,
  ⟨none, some 17, .mv (.tmp 3)⟩,
  ⟨none, some 18, .bin .add (.tmp 16) (.tmp 17)⟩,
  ⟨none, some 3, .mv (.tmp 18)⟩])
 (.seq (.region [⟨none, some 19, .mv (.tmp 4)⟩,
  ⟨none, some 20, .bin .quo (.tmp 19) (.const (.int .u64 10))⟩,
  ⟨none, some 4, .mv (.tmp 20)⟩])
 (.seq (.region [⟨none, some 21, .mv (.tmp 4)⟩,
  ⟨none, some 22, .bin .eql (.tmp 21) (.const (.int .u64 0))⟩])
 (.cond (.tmp 22) (.exit 0) .skip)))))))
 (.seq (.seq (.region [⟨none, some 23, .mv (.tmp 0)⟩,
  ⟨none, some 24, .bin .lss (.tmp 23) (.const (.int .i64 0))⟩])
 (.cond (.tmp 24) (.region [⟨none, some 25, .mv (.tmp 3)⟩,
  ⟨none, some 26, .bin .add (.const (.string ⟨#[45]⟩)) (.tmp 25)⟩,
  ⟨none, some 3, .mv (.tmp 26)⟩]) .skip))
 (.seq (.region [⟨none, some 27, .mv (.tmp 3)⟩,
  ⟨none, some 2, .mv (.tmp 27)⟩])
 .ret))))))),
 [.tmp 2]⟩
theorem c_ref09_Digits : compF P0 pf Go.Proofs.Tryz.f31 = some L_ref09_Digits := by kernel_rfl
/-- undertow/asm.each -/
abbrev n_asm_each : Nat := 32
def L_asm_each : LFn := ⟨66, (.seq (.region [⟨none, some 4, .box (.tmp 1)⟩,
  ⟨none, some 5, .box (.tmp 2)⟩,
  ⟨none, some 6, .alloc [.int .i64 0]⟩,
  ⟨none, some 7, .alloc [.int .i64 0]⟩])
 (.seq (.region [⟨none, some 8, .alloc [.int .i64 0]⟩,
  ⟨none, some 9, .alloc [.int .i64 0]⟩,
  ⟨none, none, .store 1 (.tmp 8) (.const (.int .i64 0))⟩,
  ⟨none, none, .store 1 (.tmp 9) (.const (.int .i64 0))⟩])
 (.seq (.seq (.region [⟨none, some 14, .mv (.tmp 0)⟩,
  ⟨none, some 15, .call (.func 79) [(.tmp 14), (.const (.string ⟨#[10]⟩))]⟩])
 (.block 0 (.split 138 140 (.tmp 15) 16 (.region [⟨none, some 10, .mv (.tmp 16)⟩])
 (.block 1 (.seq (.region [⟨none, some 17, .load1 (.tmp 9)⟩,
  ⟨none, some 18, .bin .add (.tmp 17) (.const (.int .i64 1))⟩,
  ⟨none, none, .store 1 (.tmp 9) (.tmp 18)⟩])
 (.seq (.region [⟨none, some 20, .mv (.tmp 10)⟩,
  ⟨none, some 21, .call (.func 80) [(.tmp 20)]⟩,
  ⟨none, some 19, .mv (.tmp 21)⟩,
  ⟨none, some 22, .ext (.tmp 19) 0⟩,
  ⟨none, some 23, .ext (.tmp 19) 1⟩,
  ⟨none, some 11, .alloc [.string ⟨#[]⟩, .int .i64 0, .slice none 0 0, .int .i64 0, .int .i64 0, .int .i64 0, .int .i64 0, .int .i64 0, .bool false, .bool false, .int .i64 0, .int .i64 0, .string ⟨#[]⟩, .bool false]⟩,
  ⟨none, none, .store 14 (.tmp 11) (.tmp 22)⟩,
  ⟨none, some 12, .mv (.tmp 23)⟩])
 (.seq (.seq (.region [⟨none, some 24, .mv (.tmp 12)⟩,
  ⟨none, some 25, .un .not (.tmp 24)⟩])
 (.cond (.tmp 25) (.seq (.region [⟨none, some 26, .load1 (.tmp 9)⟩,
  ⟨none, none, .store 1 (.tmp 6) (.tmp 26)⟩,
  ⟨none, none, .store 1 (.tmp 7) (.const (.int .i64 5))⟩])
 .ret) .skip))
 (.seq (.seq (.region [⟨none, some 27, .fad 1 (.tmp 11)⟩,
  ⟨none, some 28, .load1 (.tmp 27)⟩,
  ⟨none, some 29, .bin .geq (.tmp 28) (.const (.int .i64 0))⟩])
 (.cond (.tmp 29) (.region [⟨none, some 30, .fad 1 (.tmp 11)⟩,
  ⟨none, some 31, .load1 (.tmp 30)⟩,
  ⟨none, none, .store 1 (.tmp 8) (.tmp 31)⟩]) .skip))
 (.seq (.block 2 (.seq (.region [⟨none, some 33, .fad 13 (.tmp 11)⟩,
  ⟨none, some 34, .load1 (.tmp 33)⟩,
  ⟨none, some 35, .mv (.tmp 34)⟩,
  ⟨some (35, true), some 36, .load1 (.tmp 8)⟩,
  ⟨some (35, true), some 37, .bin .rem (.tmp 36) (.const (.int .i64 4))⟩,
  ⟨some (35, true), some 38, .bin .neq (.tmp 37) (.const (.int .i64 0))⟩,
  ⟨none, some 39, .pick (.tmp 35) (.tmp 38) (.const (.bool false))⟩,
  ⟨none, some 32, .mv (.tmp 39)⟩])
 (.cond (.tmp 32) (.seq (.region [⟨none, some 40, .load1 (.tmp 9)⟩,
  ⟨none, none, .store 1 (.tmp 6) (.tmp 40)⟩,
  ⟨none, none, .store 1 (.tmp 7) (.const (.int .i64 4))⟩])
 .ret) (.seq (.region [⟨none, some 42, .load1 (.tmp 8)⟩,
  ⟨none, some 43, .load1 (.tmp 4)⟩,
  ⟨none, some 44, .bin .gtr (.tmp 42) (.tmp 43)⟩,
  ⟨none, some 45, .mv (.tmp 44)⟩,
  ⟨some (45, false), some 46, .loadN 14 (.tmp 11)⟩,
  ⟨some (45, false), some 47, .call (.func 81) [(.tmp 46)]⟩,
  ⟨some (45, false), some 48, .load1 (.tmp 4)⟩,
  ⟨some (45, false), some 49, .load1 (.tmp 8)⟩,
  ⟨some (45, false), some 50, .bin .sub (.tmp 48) (.tmp 49)⟩,
  ⟨some (45, false), some 51, .bin .gtr (.tmp 47) (.tmp 50)⟩,
  ⟨none, some 52, .pick (.tmp 45) (.const (.bool true)) (.tmp 51)⟩,
  ⟨none, some 41, .mv (.tmp 52)⟩])
 (.cond (.tmp 41) (.seq (.region [⟨none, some 53, .load1 (.tmp 9)⟩,
  ⟨none, none, .store 1 (.tmp 6) (.tmp 53)⟩,
  ⟨none, none, .store 1 (.tmp 7) (.const (.int .i64 3))⟩])
 .ret) .skip)))))
 (.seq (.seq (.region [⟨none, some 54, .load1 (.tmp 5)⟩,
  ⟨none, some 55, .loadN 14 (.tmp 11)⟩,
  ⟨none, some 56, .load1 (.tmp 8)⟩,
  ⟨none, some 57, .call (.tmp 54) [(.tmp 55), (.tmp 56)]⟩,
  ⟨none, some 13, .mv (.tmp 57)⟩])
 (.seq (.region [⟨none, some 58, .mv (.tmp 13)⟩,
  ⟨none, some 59, .bin .neq (.tmp 58) (.const (.int .i64 0))⟩])
 (.cond (.tmp 59) (.seq (.region [⟨none, some 60, .load1 (.tmp 9)⟩,
  ⟨none, some 61, .mv (.tmp 13)⟩,
  ⟨none, none, .store 1 (.tmp 6) (.tmp 60)⟩,
  ⟨none, none, .store 1 (.tmp 7) (.tmp 61)⟩])
 .ret) .skip)))
 (.region [⟨none, some 62, .load1 (.tmp 8)⟩,
  ⟨none, some 63, .loadN 14 (.tmp 11)⟩,
  ⟨none, some 64, .call (.func 81) [(.tmp 63)]⟩,
  ⟨none, some 65, .bin .add (.tmp 62) (.tmp 64)⟩,
  ⟨none, none, .store 1 (.tmp 8) (.tmp 65)⟩])))))))))))
 (.seq (.region [⟨none, none, .store 1 (.tmp 6) (.const (.int .i64 0))⟩,
  ⟨none, none, .store 1 (.tmp 7) (.const (.int .i64 0))⟩])
 .ret)))),
 [.cell1 6, .cell1 7]⟩
theorem c_asm_each : compF P0 pf Go.Proofs.Tryz.f32 = some L_asm_each := by kernel_rfl
/-- undertow/asm.Assemble$1 -/
abbrev n_asm_Assemble_1 : Nat := 33
def L_asm_Assemble_1 : LFn := ⟨26, (.seq (.region [⟨none, some 3, .box (.tmp 0)⟩,
  ⟨none, some 5, .mv (.const (.int .i64 0))⟩])
 (.seq (.seq (.region [⟨none, some 8, .fad 0 (.tmp 3)⟩,
  ⟨none, some 9, .load1 (.tmp 8)⟩,
  ⟨none, some 10, .bin .eql (.tmp 9) (.const (.string ⟨#[]⟩))⟩])
 (.cond (.tmp 10) (.seq (.region [⟨none, some 5, .mv (.const (.int .i64 0))⟩])
 .ret) .skip))
 (.seq (.seq (.region [⟨none, some 12, .load1 (.tmp 2)⟩,
  ⟨none, some 13, .fad 0 (.tmp 3)⟩,
  ⟨none, some 14, .load1 (.tmp 13)⟩,
  ⟨none, some 15, .call (.func 34) [(.tmp 12), (.tmp 14)]⟩,
  ⟨none, some 11, .mv (.tmp 15)⟩,
  ⟨none, some 16, .ext (.tmp 11) 0⟩,
  ⟨none, some 17, .ext (.tmp 11) 1⟩,
  ⟨none, some 6, .mv (.tmp 16)⟩,
  ⟨none, some 7, .mv (.tmp 17)⟩])
 (.seq (.region [⟨none, some 18, .mv (.tmp 7)⟩])
 (.cond (.tmp 18) (.seq (.region [⟨none, some 5, .mv (.const (.int .i64 6))⟩])
 .ret) .skip)))
 (.seq (.region [⟨none, some 19, .load1 (.tmp 2)⟩,
  ⟨none, some 20, .fad 0 (.tmp 3)⟩,
  ⟨none, some 21, .load1 (.tmp 20)⟩,
  ⟨none, some 22, .mv (.tmp 1)⟩,
  ⟨none, some 23, .build [.string ⟨#[]⟩, .int .i64 0] [(0, 1, (.tmp 21)), (1, 1, (.tmp 22))]⟩,
  ⟨none, some 24, .rowM 1 (zeroRow [.string ⟨#[]⟩, .int .i64 0] 2) [(0, 2, (.tmp 23))]⟩,
  ⟨none, some 25, .app 2 24 (.tmp 19) (.tmp 24)⟩,
  ⟨none, none, .store 1 (.tmp 2) (.tmp 25)⟩])
 (.seq (.region [⟨none, some 5, .mv (.const (.int .i64 0))⟩])
 .ret))))),
 [.tmp 5]⟩
theorem c_asm_Assemble_1 : compF P0 pf Go.Proofs.Tryz.f33 = some L_asm_Assemble_1 := by kernel_rfl
/-- (undertow/asm.table).find -/
abbrev n_asm_table_find : Nat := 34
def L_asm_table_find : LFn := ⟨21, (.seq (.region [⟨none, some 4, .mv (.const (.int .i64 0))⟩,
  ⟨none, some 5, .mv (.const (.bool false))⟩])
 (.seq (.seq (.region [⟨none, some 8, .mv (.tmp 0)⟩,
  ⟨none, some 9, .lenS (.tmp 8)⟩,
  ⟨none, some 10, .mv (.const (.int .i64 0))⟩])
 (.block 0 (.loop (.seq (.region [⟨none, some 11, .bin .lss (.tmp 10) (.tmp 9)⟩])
 (.seq (.cond (.tmp 11) .skip (.exit 0))
 (.seq (.block 1 (.seq (.region [⟨none, some 12, .iadS 2 (.tmp 8) (.tmp 10)⟩,
  ⟨none, some 13, .loadN 2 (.tmp 12)⟩,
  ⟨none, some 7, .alloc [.string ⟨#[]⟩, .int .i64 0]⟩,
  ⟨none, none, .store 2 (.tmp 7) (.tmp 13)⟩])
 (.seq (.region [⟨none, some 14, .fad 0 (.tmp 7)⟩,
  ⟨none, some 15, .load1 (.tmp 14)⟩,
  ⟨none, some 16, .mv (.tmp 1)⟩,
  ⟨none, some 17, .bin .eql (.tmp 15) (.tmp 16)⟩])
 (.cond (.tmp 17) (.seq (.region [⟨none, some 18, .fad 1 (.tmp 7)⟩,
  ⟨none, some 19, .load1 (.tmp 18)⟩,
  ⟨none, some 4, .mv (.tmp 19)⟩,
  ⟨none, some 5, .mv (.const (.bool true))⟩])
 .ret) .skip))))
 (.region [⟨none, some 20, .bin .add (.tmp 10) (.const (.int .i64 1))⟩,
  ⟨none, some 10, .mv (.tmp 20)⟩])))))))
 (.seq (.region [⟨none, some 4, .mv (.const (.int .i64 0))⟩,
  ⟨none, some 5, .mv (.const (.bool false))⟩])
 .ret))),
 [.tmp 4, .tmp 5]⟩
theorem c_asm_table_find : compF P0 pf Go.Proofs.Tryz.f34 = some L_asm_table_find := by kernel_rfl
/-- undertow/asm.Assemble$2 -/
abbrev n_asm_Assemble_2 : Nat := 35
def L_asm_Assemble_2 : LFn := ⟨48, (.seq (.region [⟨none, some 4, .box (.tmp 0)⟩,
  ⟨none, some 6, .mv (.const (.int .i64 0))⟩])
 (.seq (.seq (.region [⟨none, some 11, .fad 12 (.tmp 4)⟩,
  ⟨none, some 12, .load1 (.tmp 11)⟩,
  ⟨none, some 13, .bin .neq (.tmp 12) (.const (.string ⟨#[]⟩))⟩])
 (.cond (.tmp 13) (.seq (.region [⟨none, some 15, .load1 (.tmp 2)⟩,
  ⟨none, some 16, .fad 12 (.tmp 4)⟩,
  ⟨none, some 17, .load1 (.tmp 16)⟩,
  ⟨none, some 18, .call (.func 34) [(.tmp 15), (.tmp 17)]⟩,
  ⟨none, some 14, .mv (.tmp 18)⟩,
  ⟨none, some 19, .ext (.tmp 14) 0⟩,
  ⟨none, some 20, .ext (.tmp 14) 1⟩,
  ⟨none, some 7, .mv (.tmp 19)⟩,
  ⟨none, some 8, .mv (.tmp 20)⟩])
 (.seq (.seq (.region [⟨none, some 21, .mv (.tmp 8)⟩,
  ⟨none, some 22, .un .not (.tmp 21)⟩])
 (.cond (.tmp 22) (.seq (.region [⟨none, some 6, .mv (.const (.int .i64 6))⟩])
 .ret) .skip))
 (.region [⟨none, some 23, .mv (.tmp 7)⟩,
  ⟨none, some 24, .mv (.tmp 1)⟩,
  ⟨none, some 25, .bin .sub (.tmp 23) (.tmp 24)⟩,
  ⟨none, some 26, .fad 3 (.tmp 4)⟩,
  ⟨none, some 27, .fad 4 (.tmp 26)⟩,
  ⟨none, none, .store 1 (.tmp 27) (.tmp 25)⟩]))) .skip))
 (.seq (.seq (.region [⟨none, some 28, .fad 13 (.tmp 4)⟩,
  ⟨none, some 29, .load1 (.tmp 28)⟩])
 (.cond (.tmp 29) (.seq (.region [⟨none, some 31, .fad 3 (.tmp 4)⟩,
  ⟨none, some 32, .loadN 9 (.tmp 31)⟩,
  ⟨none, some 33, .call (.func 23) [(.tmp 32)]⟩,
  ⟨none, some 30, .mv (.tmp 33)⟩,
  ⟨none, some 34, .ext (.tmp 30) 0⟩,
  ⟨none, some 35, .ext (.tmp 30) 1⟩,
  ⟨none, some 9, .mv (.tmp 34)⟩,
  ⟨none, some 10, .mv (.tmp 35)⟩])
 (.seq (.seq (.region [⟨none, some 36, .mv (.tmp 10)⟩,
  ⟨none, some 37, .bin .neq (.tmp 36) (.const (.int .i64 0))⟩])
 (.cond (.tmp 37) (.seq (.region [⟨none, some 6, .mv (.const (.int .i64 3))⟩])
 .ret) .skip))
 (.region [⟨none, some 38, .mv (.tmp 9)⟩,
  ⟨none, some 39, .convI .u64 (.tmp 38)⟩,
  ⟨none, some 40, .call (.func 36) [(.tmp 39), (.const (.int .i64 4))]⟩,
  ⟨none, some 41, .fad 2 (.tmp 4)⟩,
  ⟨none, none, .store 1 (.tmp 41) (.tmp 40)⟩]))) .skip))
 (.seq (.region [⟨none, some 42, .load1 (.tmp 3)⟩,
  ⟨none, some 43, .mv (.tmp 1)⟩,
  ⟨none, some 44, .slc 1 (.tmp 42) (some (.tmp 43)) none none⟩,
  ⟨none, some 45, .fad 2 (.tmp 4)⟩,
  ⟨none, some 46, .load1 (.tmp 45)⟩,
  ⟨none, some 47, .cpy 1 (.tmp 44) (.tmp 46)⟩])
 (.seq (.region [⟨none, some 6, .mv (.const (.int .i64 0))⟩])
 .ret))))),
 [.tmp 6]⟩
theorem c_asm_Assemble_2 : compF P0 pf Go.Proofs.Tryz.f35 = some L_asm_Assemble_2 := by kernel_rfl
/-- undertow/word.Bytes -/
abbrev n_word_Bytes : Nat := 36
def L_word_Bytes : LFn := ⟨19, (.seq (.region [⟨none, some 4, .mv (.const (.slice none 0 0))⟩])
 (.seq (.region [⟨none, some 5, .mv (.const (.slice none 0 0))⟩])
 (.seq (.seq (.region [⟨none, some 6, .mv (.tmp 1)⟩,
  ⟨none, some 7, .mn (.tmp 6) (.const (.int .i64 8))⟩,
  ⟨none, some 8, .mv (.const (.int .i64 0))⟩])
 (.block 0 (.loop (.seq (.region [⟨none, some 9, .bin .lss (.tmp 8) (.tmp 7)⟩])
 (.seq (.cond (.tmp 9) .skip (.exit 0))
 (.seq (.block 1 (.seq (.region [⟨none, some 10, .mv (.tmp 5)⟩,
  ⟨none, some 11, .mv (.tmp 0)⟩,
  ⟨none, some 12, .convI .u8 (.tmp 11)⟩,
  ⟨none, some 13, .rowM 1 (zeroRow [.int .u8 0] 1) [(0, 1, (.tmp 12))]⟩,
  ⟨none, some 14, .app 1 1 (.tmp 10) (.tmp 13)⟩,
  ⟨none, some 5, .mv (.tmp 14)⟩])
 (.region [⟨none, some 15, .mv (.tmp 0)⟩,
  ⟨none, some 16, .bin .shr (.tmp 15) (.const (.int .u64 8))⟩,
  ⟨none, some 0, .mv (.tmp 16)⟩])))
 (.region [⟨none, some 17, .bin .add (.tmp 8) (.const (.int .i64 1))⟩,
  ⟨none, some 8, .mv (.tmp 17)⟩])))))))
 (.seq (.region [⟨none, some 18, .mv (.tmp 5)⟩,
  ⟨none, some 4, .mv (.tmp 18)⟩])
 .ret)))),
 [.tmp 4]⟩
theorem c_word_Bytes : compF P0 pf Go.Proofs.Tryz.f36 = some L_word_Bytes := by kernel_rfl
/-- undertow/seq.Fetch -/
abbrev n_seq_Fetch : Nat := 37
def L_seq_Fetch : LFn := ⟨40, (.seq (.region [⟨none, some 4, .alloc [.int .i64 0, .int .i64 0, .int .i64 0, .int .i64 0, .int .i64 0, .bool false, .bool false, .int .i64 0, .int .i64 0]⟩,
  ⟨none, some 5, .mv (.const (.int .i64 0))⟩])
 (.seq (.seq (.region [⟨none, some 8, .mv (.tmp 1)⟩,
  ⟨none, some 9, .bin .rem (.tmp 8) (.const (.int .u64 4))⟩,
  ⟨none, some 10, .bin .neq (.tmp 9) (.const (.int .u64 0))⟩,
  ⟨none, some 11, .mv (.tmp 10)⟩,
  ⟨some (11, false), some 12, .mv (.tmp 0)⟩,
  ⟨some (11, false), some 13, .lenS (.tmp 12)⟩,
  ⟨some (11, false), some 14, .bin .lss (.tmp 13) (.const (.int .i64 4))⟩,
  ⟨none, some 15, .pick (.tmp 11) (.const (.bool true)) (.tmp 14)⟩,
  ⟨none, some 16, .mv (.tmp 15)⟩,
  ⟨some (16, false), some 17, .mv (.tmp 1)⟩,
  ⟨some (16, false), some 18, .mv (.tmp 0)⟩,
  ⟨some (16, false), some 19, .lenS (.tmp 18)⟩,
  ⟨some (16, false), some 20, .bin .sub (.tmp 19) (.const (.int .i64 4))⟩,
  ⟨some (16, false), some 21, .convI .u64 (.tmp 20)⟩,
  ⟨some (16, false), some 22, .bin .gtr (.tmp 17) (.tmp 21)⟩,
  ⟨none, some 23, .pick (.tmp 16) (.const (.bool true)) (.tmp 22)⟩])
 (.cond (.tmp 23) (.seq (.region [⟨none, some 24, .build [.int .i64 0, .int .i64 0, .int .i64 0, .int .i64 0, .int .i64 0, .bool false, .bool false, .int .i64 0, .int .i64 0] []⟩,
  ⟨none, none, .store 9 (.tmp 4) (.tmp 24)⟩,
  ⟨none, some 5, .mv (.const (.int .i64 4))⟩])
 .ret) .skip))
 (.seq (.region [⟨none, some 26, .mv (.tmp 0)⟩,
  ⟨none, some 27, .mv (.tmp 1)⟩,
  ⟨none, some 28, .mv (.tmp 1)⟩,
  ⟨none, some 29, .bin .add (.tmp 28) (.const (.int .u64 4))⟩,
  ⟨none, some 30, .slc 1 (.tmp 26) (some (.tmp 27)) (some (.tmp 29)) none⟩,
  ⟨none, some 31, .call (.func 21) [(.tmp 30)]⟩,
  ⟨none, some 32, .convI .u32 (.tmp 31)⟩,
  ⟨none, some 33, .call (.func 22) [(.tmp 32)]⟩,
  ⟨none, some 25, .mv (.tmp 33)⟩,
  ⟨none, some 34, .ext (.tmp 25) 0⟩,
  ⟨none, some 35, .ext (.tmp 25) 1⟩,
  ⟨none, some 6, .alloc [.int .i64 0, .int .i64 0, .int .i64 0, .int .i64 0, .int .i64 0, .bool false, .bool false, .int .i64 0, .int .i64 0]⟩,
  ⟨none, none, .store 9 (.tmp 6) (.tmp 34)⟩,
  ⟨none, some 7, .mv (.tmp 35)⟩])
 (.seq (.seq (.region [⟨none, some 36, .mv (.tmp 7)⟩,
  ⟨none, some 37, .bin .neq (.tmp 36) (.const (.int .i64 0))⟩])
 (.cond (.tmp 37) (.seq (.region [⟨none, some 38, .build [.int .i64 0, .int .i64 0, .int .i64 0, .int .i64 0, .int .i64 0, .bool false, .bool false, .int .i64 0, .int .i64 0] []⟩,
  ⟨none, none, .store 9 (.tmp 4) (.tmp 38)⟩,
  ⟨none, some 5, .mv (.const (.int .i64 3))⟩])
 .ret) .skip))
 (.seq (.region [⟨none, some 39, .loadN 9 (.tmp 6)⟩,
  ⟨none, none, .store 9 (.tmp 4) (.tmp 39)⟩,
  ⟨none, some 5, .mv (.const (.int .i64 0))⟩])
 .ret))))),
 [.cellN 4 9, .tmp 5]⟩
theorem c_seq_Fetch : compF P0 pf Go.Proofs.Tryz.f37 = some L_seq_Fetch := by kernel_rfl
/-- undertow/seq.halts -/
abbrev n_seq_halts : Nat := 38
def L_seq_halts : LFn := ⟨41, (.seq (.region [⟨none, some 3, .box (.tmp 0)⟩,
  ⟨none, some 4, .box (.tmp 1)⟩,
  ⟨none, some 6, .mv (.const (.int .i64 0))⟩,
  ⟨none, some 7, .mv (.const (.int .u64 0))⟩])
 (.seq (.block 0 (.seq (.region [⟨none, some 10, .fad 0 (.tmp 4)⟩,
  ⟨none, some 11, .load1 (.tmp 10)⟩,
  ⟨none, some 12, .bin .eql (.tmp 11) (.const (.int .i64 52))⟩,
  ⟨none, some 9, .mv (.tmp 12)⟩])
 (.cond (.tmp 9) (.seq (.region [⟨none, some 6, .mv (.const (.int .i64 1))⟩,
  ⟨none, some 7, .mv (.const (.int .u64 0))⟩])
 .ret) (.seq (.region [⟨none, some 14, .fad 0 (.tmp 4)⟩,
  ⟨none, some 15, .load1 (.tmp 14)⟩,
  ⟨none, some 16, .bin .eql (.tmp 15) (.const (.int .i64 53))⟩,
  ⟨none, some 13, .mv (.tmp 16)⟩])
 (.cond (.tmp 13) (.seq (.region [⟨none, some 6, .mv (.const (.int .i64 2))⟩,
  ⟨none, some 7, .mv (.const (.int .u64 0))⟩])
 .ret) (.seq (.region [⟨none, some 18, .fad 0 (.tmp 4)⟩,
  ⟨none, some 19, .load1 (.tmp 18)⟩,
  ⟨none, some 20, .call (.func 82) [(.tmp 19)]⟩,
  ⟨none, some 21, .un .not (.tmp 20)⟩,
  ⟨none, some 17, .mv (.tmp 21)⟩])
 (.cond (.tmp 17) (.seq (.region [⟨none, some 6, .mv (.const (.int .i64 0))⟩,
  ⟨none, some 7, .mv (.const (.int .u64 0))⟩])
 .ret) .skip)))))))
 (.seq (.region [⟨none, some 22, .loadN 9 (.tmp 4)⟩,
  ⟨none, some 23, .fad 2 (.tmp 4)⟩,
  ⟨none, some 24, .load1 (.tmp 23)⟩,
  ⟨none, some 25, .fad 1 (.tmp 3)⟩,
  ⟨none, some 26, .iadA 32 1 (.tmp 25) (.tmp 24)⟩,
  ⟨none, some 27, .load1 (.tmp 26)⟩,
  ⟨none, some 28, .call (.func 83) [(.tmp 22), (.tmp 27)]⟩,
  ⟨none, some 8, .mv (.tmp 28)⟩])
 (.seq (.seq (.region [⟨none, some 29, .fad 0 (.tmp 4)⟩,
  ⟨none, some 30, .load1 (.tmp 29)⟩,
  ⟨none, some 31, .mv (.tmp 8)⟩,
  ⟨none, some 32, .mv (.tmp 2)⟩,
  ⟨none, some 33, .call (.func 84) [(.tmp 30), (.tmp 31), (.tmp 32)]⟩])
 (.block 1 (.seq (.region [⟨none, some 35, .bin .eql (.tmp 33) (.const (.int .i64 4))⟩,
  ⟨none, some 34, .mv (.tmp 35)⟩])
 (.cond (.tmp 34) (.seq (.region [⟨none, some 36, .mv (.tmp 8)⟩,
  ⟨none, some 6, .mv (.const (.int .i64 5))⟩,
  ⟨none, some 7, .mv (.tmp 36)⟩])
 .ret) (.seq (.region [⟨none, some 38, .bin .eql (.tmp 33) (.const (.int .i64 3))⟩,
  ⟨none, some 37, .mv (.tmp 38)⟩])
 (.cond (.tmp 37) (.seq (.region [⟨none, some 39, .mv (.tmp 8)⟩,
  ⟨none, some 6, .mv (.const (.int .i64 6))⟩,
  ⟨none, some 7, .mv (.tmp 39)⟩])
 .ret) .skip))))))
 (.seq (.region [⟨none, some 40, .mv (.tmp 8)⟩,
  ⟨none, some 6, .mv (.const (.int .i64 0))⟩,
  ⟨none, some 7, .mv (.tmp 40)⟩])
 .ret))))),
 [.tmp 6, .tmp 7]⟩
theorem c_seq_halts : compF P0 pf Go.Proofs.Tryz.f38 = some L_seq_halts := by kernel_rfl
/-- undertow/ops.Loads -/
abbrev n_ops_Loads : Nat := 39
def L_ops_Loads : LFn := ⟨9, (.seq (.region [⟨none, some 2, .mv (.const (.bool false))⟩])
 (.seq (.seq (.region [⟨none, some 3, .mv (.tmp 0)⟩,
  ⟨none, some 4, .call (.func 42) [(.tmp 3)]⟩])
 (.block 0 (.seq (.seq (.region [⟨none, some 6, .bin .eql (.tmp 4) (.const (.int .i64 4))⟩,
  ⟨none, some 5, .mv (.tmp 6)⟩])
 (.cond (.tmp 5) .skip (.seq (.region [⟨none, some 7, .bin .eql (.tmp 4) (.const (.int .i64 10))⟩,
  ⟨none, some 5, .mv (.tmp 7)⟩])
 (.cond (.tmp 5) .skip (.region [⟨none, some 8, .bin .eql (.tmp 4) (.const (.int .i64 12))⟩,
  ⟨none, some 5, .mv (.tmp 8)⟩])))))
 (.cond (.tmp 5) (.seq (.region [⟨none, some 2, .mv (.const (.bool true))⟩])
 .ret) .skip))))
 (.seq (.region [⟨none, some 2, .mv (.const (.bool false))⟩])
 .ret))),
 [.tmp 2]⟩
theorem c_ops_Loads : compF P0 pf Go.Proofs.Tryz.f39 = some L_ops_Loads := by kernel_rfl
/-- undertow/word.Zext -/
abbrev n_word_Zext : Nat := 40
def L_word_Zext : LFn := ⟨17, (.seq (.region [⟨none, some 4, .mv (.const (.int .u64 0))⟩])
 (.seq (.block 0 (.seq (.region [⟨none, some 6, .mv (.tmp 1)⟩,
  ⟨none, some 7, .bin .lss (.tmp 6) (.const (.int .i64 1))⟩,
  ⟨none, some 5, .mv (.tmp 7)⟩])
 (.cond (.tmp 5) (.seq (.region [⟨none, some 4, .mv (.const (.int .u64 0))⟩])
 .ret) (.seq (.region [⟨none, some 9, .mv (.tmp 1)⟩,
  ⟨none, some 10, .bin .geq (.tmp 9) (.const (.int .i64 64))⟩,
  ⟨none, some 8, .mv (.tmp 10)⟩])
 (.cond (.tmp 8) (.seq (.region [⟨none, some 11, .mv (.tmp 0)⟩,
  ⟨none, some 4, .mv (.tmp 11)⟩])
 .ret) .skip)))))
 (.seq (.region [⟨none, some 12, .mv (.tmp 0)⟩,
  ⟨none, some 13, .mv (.tmp 1)⟩,
  ⟨none, some 14, .bin .shl (.const (.int .u64 1)) (.tmp 13)⟩,
  ⟨none, some 15, .bin .sub (.tmp 14) (.const (.int .u64 1))⟩,
  ⟨none, some 16, .bin .and (.tmp 12) (.tmp 15)⟩,
  ⟨none, some 4, .mv (.tmp 16)⟩])
 .ret))),
 [.tmp 4]⟩
theorem c_word_Zext : compF P0 pf Go.Proofs.Tryz.f40 = some L_word_Zext := by kernel_rfl
/-- undertow/ops.Size -/
abbrev n_ops_Size : Nat := 41
def L_ops_Size : LFn := ⟨30, (.seq (.region [⟨none, some 2, .mv (.const (.int .i64 0))⟩])
 (.seq (.seq (.region [⟨none, some 3, .mv (.tmp 0)⟩])
 (.block 0 (.seq (.seq (.region [⟨none, some 5, .bin .eql (.tmp 3) (.const (.int .i64 11))⟩,
  ⟨none, some 4, .mv (.tmp 5)⟩])
 (.cond (.tmp 4) .skip (.seq (.region [⟨none, some 6, .bin .eql (.tmp 3) (.const (.int .i64 15))⟩,
  ⟨none, some 4, .mv (.tmp 6)⟩])
 (.cond (.tmp 4) .skip (.region [⟨none, some 7, .bin .eql (.tmp 3) (.const (.int .i64 18))⟩,
  ⟨none, some 4, .mv (.tmp 7)⟩])))))
 (.cond (.tmp 4) (.seq (.region [⟨none, some 2, .mv (.const (.int .i64 1))⟩])
 .ret) (.seq (.seq (.region [⟨none, some 9, .bin .eql (.tmp 3) (.const (.int .i64 12))⟩,
  ⟨none, some 8, .mv (.tmp 9)⟩])
 (.cond (.tmp 8) .skip (.seq (.region [⟨none, some 10, .bin .eql (.tmp 3) (.const (.int .i64 16))⟩,
  ⟨none, some 8, .mv (.tmp 10)⟩])
 (.cond (.tmp 8) .skip (.region [⟨none, some 11, .bin .eql (.tmp 3) (.const (.int .i64 19))⟩,
  ⟨none, some 8, .mv (.tmp 11)⟩])))))
 (.cond (.tmp 8) (.seq (.region [⟨none, some 2, .mv (.const (.int .i64 2))⟩])
 .ret) (.seq (.seq (.region [⟨none, some 13, .bin .eql (.tmp 3) (.const (.int .i64 13))⟩,
  ⟨none, some 12, .mv (.tmp 13)⟩])
 (.cond (.tmp 12) .skip (.seq (.region [⟨none, some 14, .bin .eql (.tmp 3) (.const (.int .i64 17))⟩,
  ⟨none, some 12, .mv (.tmp 14)⟩])
 (.cond (.tmp 12) .skip (.seq (.region [⟨none, some 15, .bin .eql (.tmp 3) (.const (.int .i64 20))⟩,
  ⟨none, some 12, .mv (.tmp 15)⟩])
 (.cond (.tmp 12) .skip (.seq (.region [⟨none, some 16, .bin .eql (.tmp 3) (.const (.int .i64 54))⟩,
  ⟨none, some 12, .mv (.tmp 16)⟩])
 (.cond (.tmp 12) .skip (.region [⟨none, some 17, .bin .eql (.tmp 3) (.const (.int .i64 56))⟩,
  ⟨none, some 12, .mv (.tmp 17)⟩])))))))))
 (.cond (.tmp 12) (.seq (.region [⟨none, some 2, .mv (.const (.int .i64 4))⟩])
 .ret) (.seq (.seq (.region [⟨none, some 19, .bin .eql (.tmp 3) (.const (.int .i64 14))⟩,
  ⟨none, some 18, .mv (.tmp 19)⟩])
 (.cond (.tmp 18) .skip (.seq (.region [⟨none, some 20, .bin .eql (.tmp 3) (.const (.int .i64 21))⟩,
  ⟨none, some 18, .mv (.tmp 20)⟩])
 (.cond (.tmp 18) .skip (.seq (.region [⟨none, some 21, .bin .eql (.tmp 3) (.const (.int .i64 55))⟩,
  ⟨none, some 18, .mv (.tmp 21)⟩])
 (.cond (.tmp 18) .skip (.region [⟨none, some 22, .bin .eql (.tmp 3) (.const (.int .i64 57))⟩,
  ⟨none, some 18, .mv (.tmp 22)⟩])))))))
 (.cond (.tmp 18) (.seq (.region [⟨none, some 2, .mv (.const (.int .i64 8))⟩])
 .ret) .skip))))))))))
 (.seq (.block 1 (.seq (.region [⟨none, some 24, .mv (.tmp 0)⟩,
  ⟨none, some 25, .call (.func 42) [(.tmp 24)]⟩,
  ⟨none, some 26, .bin .neq (.tmp 25) (.const (.int .i64 12))⟩,
  ⟨none, some 23, .mv (.tmp 26)⟩])
 (.cond (.tmp 23) (.seq (.region [⟨none, some 2, .mv (.const (.int .i64 0))⟩])
 .ret) (.seq (.region [⟨none, some 28, .mv (.tmp 0)⟩,
  ⟨none, some 29, .bin .leq (.tmp 28) (.const (.int .i64 66))⟩,
  ⟨none, some 27, .mv (.tmp 29)⟩])
 (.cond (.tmp 27) (.seq (.region [⟨none, some 2, .mv (.const (.int .i64 4))⟩])
 .ret) .skip)))))
 (.seq (.region [⟨none, some 2, .mv (.const (.int .i64 8))⟩])
 .ret)))),
 [.tmp 2]⟩
theorem c_ops_Size : compF P0 pf Go.Proofs.Tryz.f41 = some L_ops_Size := by kernel_rfl
/-- undertow/ops.Sort -/
abbrev n_ops_Sort : Nat := 42
def L_ops_Sort : LFn := ⟨43, (.seq (.region [⟨none, some 2, .mv (.const (.int .i64 0))⟩])
 (.seq (.block 0 (.seq (.region [⟨none, some 4, .mv (.tmp 0)⟩,
  ⟨none, some 5, .bin .lss (.tmp 4) (.const (.int .i64 1))⟩,
  ⟨none, some 6, .mv (.tmp 5)⟩,
  ⟨some (6, false), some 7, .mv (.tmp 0)⟩,
  ⟨some (6, false), some 8, .bin .gtr (.tmp 7) (.const (.int .i64 75))⟩,
  ⟨none, some 9, .pick (.tmp 6) (.const (.bool true)) (.tmp 8)⟩,
  ⟨none, some 3, .mv (.tmp 9)⟩])
 (.cond (.tmp 3) (.seq (.region [⟨none, some 2, .mv (.const (.int .i64 0))⟩])
 .ret) (.seq (.region [⟨none, some 11, .mv (.tmp 0)⟩,
  ⟨none, some 12, .bin .leq (.tmp 11) (.const (.int .i64 2))⟩,
  ⟨none, some 10, .mv (.tmp 12)⟩])
 (.cond (.tmp 10) (.seq (.region [⟨none, some 2, .mv (.const (.int .i64 1))⟩])
 .ret) (.seq (.region [⟨none, some 14, .mv (.tmp 0)⟩,
  ⟨none, some 15, .bin .leq (.tmp 14) (.const (.int .i64 4))⟩,
  ⟨none, some 13, .mv (.tmp 15)⟩])
 (.cond (.tmp 13) (.seq (.region [⟨none, some 2, .mv (.const (.int .i64 2))⟩])
 .ret) (.seq (.region [⟨none, some 17, .mv (.tmp 0)⟩,
  ⟨none, some 18, .bin .leq (.tmp 17) (.const (.int .i64 10))⟩,
  ⟨none, some 16, .mv (.tmp 18)⟩])
 (.cond (.tmp 16) (.seq (.region [⟨none, some 2, .mv (.const (.int .i64 3))⟩])
 .ret) (.seq (.region [⟨none, some 20, .mv (.tmp 0)⟩,
  ⟨none, some 21, .bin .leq (.tmp 20) (.const (.int .i64 17))⟩,
  ⟨none, some 19, .mv (.tmp 21)⟩])
 (.cond (.tmp 19) (.seq (.region [⟨none, some 2, .mv (.const (.int .i64 4))⟩])
 .ret) (.seq (.region [⟨none, some 23, .mv (.tmp 0)⟩,
  ⟨none, some 24, .bin .leq (.tmp 23) (.const (.int .i64 21))⟩,
  ⟨none, some 22, .mv (.tmp 24)⟩])
 (.cond (.tmp 22) (.seq (.region [⟨none, some 2, .mv (.const (.int .i64 5))⟩])
 .ret) (.seq (.region [⟨none, some 26, .mv (.tmp 0)⟩,
  ⟨none, some 27, .bin .leq (.tmp 26) (.const (.int .i64 34))⟩,
  ⟨none, some 25, .mv (.tmp 27)⟩])
 (.cond (.tmp 25) (.seq (.region [⟨none, some 2, .mv (.const (.int .i64 6))⟩])
 .ret) (.seq (.region [⟨none, some 29, .mv (.tmp 0)⟩,
  ⟨none, some 30, .bin .leq (.tmp 29) (.const (.int .i64 49))⟩,
  ⟨none, some 28, .mv (.tmp 30)⟩])
 (.cond (.tmp 28) (.seq (.region [⟨none, some 2, .mv (.const (.int .i64 7))⟩])
 .ret) (.seq (.region [⟨none, some 32, .mv (.tmp 0)⟩,
  ⟨none, some 33, .bin .leq (.tmp 32) (.const (.int .i64 51))⟩,
  ⟨none, some 31, .mv (.tmp 33)⟩])
 (.cond (.tmp 31) (.seq (.region [⟨none, some 2, .mv (.const (.int .i64 8))⟩])
 .ret) (.seq (.region [⟨none, some 35, .mv (.tmp 0)⟩,
  ⟨none, some 36, .bin .leq (.tmp 35) (.const (.int .i64 53))⟩,
  ⟨none, some 34, .mv (.tmp 36)⟩])
 (.cond (.tmp 34) (.seq (.region [⟨none, some 2, .mv (.const (.int .i64 9))⟩])
 .ret) (.seq (.region [⟨none, some 38, .mv (.tmp 0)⟩,
  ⟨none, some 39, .bin .leq (.tmp 38) (.const (.int .i64 55))⟩,
  ⟨none, some 37, .mv (.tmp 39)⟩])
 (.cond (.tmp 37) (.seq (.region [⟨none, some 2, .mv (.const (.int .i64 10))⟩])
 .ret) (.seq (.region [⟨none, some 41, .mv (.tmp 0)⟩,
  ⟨none, some 42, .bin .leq (.tmp 41) (.const (.int .i64 57))⟩,
  ⟨none, some 40, .mv (.tmp 42)⟩])
 (.cond (.tmp 40) (.seq (.region [⟨none, some 2, .mv (.const (.int .i64 11))⟩])
 .ret) .skip)))))))))))))))))))))))))
 (.seq (.region [⟨none, some 2, .mv (.const (.int .i64 12))⟩])
 .ret))),
 [.tmp 2]⟩
theorem c_ops_Sort : compF P0 pf Go.Proofs.Tryz.f42 = some L_ops_Sort := by kernel_rfl
/-- undertow/ops.Stores -/
abbrev n_ops_Stores : Nat := 43
def L_ops_Stores : LFn := ⟨9, (.seq (.region [⟨none, some 2, .mv (.const (.bool false))⟩])
 (.seq (.seq (.region [⟨none, some 3, .mv (.tmp 0)⟩,
  ⟨none, some 4, .call (.func 42) [(.tmp 3)]⟩])
 (.block 0 (.seq (.seq (.region [⟨none, some 6, .bin .eql (.tmp 4) (.const (.int .i64 5))⟩,
  ⟨none, some 5, .mv (.tmp 6)⟩])
 (.cond (.tmp 5) .skip (.seq (.region [⟨none, some 7, .bin .eql (.tmp 4) (.const (.int .i64 11))⟩,
  ⟨none, some 5, .mv (.tmp 7)⟩])
 (.cond (.tmp 5) .skip (.region [⟨none, some 8, .bin .eql (.tmp 4) (.const (.int .i64 12))⟩,
  ⟨none, some 5, .mv (.tmp 8)⟩])))))
 (.cond (.tmp 5) (.seq (.region [⟨none, some 2, .mv (.const (.bool true))⟩])
 .ret) .skip))))
 (.seq (.region [⟨none, some 2, .mv (.const (.bool false))⟩])
 .ret))),
 [.tmp 2]⟩
theorem c_ops_Stores : compF P0 pf Go.Proofs.Tryz.f43 = some L_ops_Stores := by kernel_rfl
/-- undertow/alu.Stored -/
abbrev n_alu_Stored : Nat := 44
def L_alu_Stored : LFn := ⟨32, (.seq (.region [⟨none, some 6, .mv (.const (.int .u64 0))⟩])
 (.seq (.region [⟨none, some 8, .mv (.tmp 0)⟩,
  ⟨none, some 9, .call (.func 41) [(.tmp 8)]⟩,
  ⟨none, some 10, .bin .mul (.const (.int .i64 8)) (.tmp 9)⟩,
  ⟨none, some 7, .mv (.tmp 10)⟩])
 (.seq (.seq (.region [⟨none, some 11, .mv (.tmp 0)⟩,
  ⟨none, some 12, .call (.func 42) [(.tmp 11)]⟩])
 (.block 0 (.seq (.seq (.region [⟨none, some 14, .bin .eql (.tmp 12) (.const (.int .i64 5))⟩,
  ⟨none, some 13, .mv (.tmp 14)⟩])
 (.cond (.tmp 13) .skip (.region [⟨none, some 15, .bin .eql (.tmp 12) (.const (.int .i64 11))⟩,
  ⟨none, some 13, .mv (.tmp 15)⟩])))
 (.cond (.tmp 13) (.seq (.region [⟨none, some 16, .mv (.tmp 2)⟩,
  ⟨none, some 17, .mv (.tmp 7)⟩,
  ⟨none, some 18, .call (.func 40) [(.tmp 16), (.tmp 17)]⟩,
  ⟨none, some 6, .mv (.tmp 18)⟩])
 .ret) (.seq (.region [⟨none, some 20, .bin .eql (.tmp 12) (.const (.int .i64 12))⟩,
  ⟨none, some 19, .mv (.tmp 20)⟩])
 (.cond (.tmp 19) (.seq (.region [⟨none, some 21, .mv (.tmp 0)⟩,
  ⟨none, some 22, .mv (.tmp 1)⟩,
  ⟨none, some 23, .mv (.tmp 7)⟩,
  ⟨none, some 24, .call (.func 86) [(.tmp 22), (.tmp 23)]⟩,
  ⟨none, some 25, .mv (.tmp 2)⟩,
  ⟨none, some 26, .mv (.tmp 7)⟩,
  ⟨none, some 27, .call (.func 86) [(.tmp 25), (.tmp 26)]⟩,
  ⟨none, some 28, .mv (.tmp 7)⟩,
  ⟨none, some 29, .call (.func 85) [(.tmp 21), (.tmp 24), (.tmp 27), (.tmp 28)]⟩,
  ⟨none, some 30, .mv (.tmp 7)⟩,
  ⟨none, some 31, .call (.func 40) [(.tmp 29), (.tmp 30)]⟩,
  ⟨none, some 6, .mv (.tmp 31)⟩])
 .ret) .skip))))))
 (.seq (.region [⟨none, some 6, .mv (.const (.int .u64 0))⟩])
 .ret)))),
 [.tmp 6]⟩
theorem c_alu_Stored : compF P0 pf Go.Proofs.Tryz.f44 = some L_alu_Stored := by kernel_rfl
/-- undertow/alu.Next -/
abbrev n_alu_Next : Nat := 45
def L_alu_Next : LFn := ⟨34, (.seq (.region [⟨none, some 4, .box (.tmp 0)⟩,
  ⟨none, some 8, .mv (.const (.int .u64 0))⟩])
 (.seq (.block 0 (.seq (.seq (.region [⟨none, some 10, .fad 0 (.tmp 4)⟩,
  ⟨none, some 11, .load1 (.tmp 10)⟩,
  ⟨none, some 12, .bin .eql (.tmp 11) (.const (.int .i64 3))⟩,
  ⟨none, some 9, .mv (.tmp 12)⟩])
 (.cond (.tmp 9) .skip (.region [⟨none, some 13, .loadN 9 (.tmp 4)⟩,
  ⟨none, some 14, .mv (.tmp 2)⟩,
  ⟨none, some 15, .mv (.tmp 3)⟩,
  ⟨none, some 16, .call (.func 87) [(.tmp 13), (.tmp 14), (.tmp 15)]⟩,
  ⟨none, some 9, .mv (.tmp 16)⟩])))
 (.cond (.tmp 9) (.seq (.region [⟨none, some 17, .mv (.tmp 1)⟩,
  ⟨none, some 18, .fad 4 (.tmp 4)⟩,
  ⟨none, some 19, .load1 (.tmp 18)⟩,
  ⟨none, some 20, .convI .u64 (.tmp 19)⟩,
  ⟨none, some 21, .bin .add (.tmp 17) (.tmp 20)⟩,
  ⟨none, some 8, .mv (.tmp 21)⟩])
 .ret) (.seq (.region [⟨none, some 23, .fad 0 (.tmp 4)⟩,
  ⟨none, some 24, .load1 (.tmp 23)⟩,
  ⟨none, some 25, .bin .eql (.tmp 24) (.const (.int .i64 4))⟩,
  ⟨none, some 22, .mv (.tmp 25)⟩])
 (.cond (.tmp 22) (.seq (.region [⟨none, some 26, .mv (.tmp 2)⟩,
  ⟨none, some 27, .fad 4 (.tmp 4)⟩,
  ⟨none, some 28, .load1 (.tmp 27)⟩,
  ⟨none, some 29, .convI .u64 (.tmp 28)⟩,
  ⟨none, some 30, .bin .add (.tmp 26) (.tmp 29)⟩,
  ⟨none, some 31, .bin .andNot (.tmp 30) (.const (.int .u64 1))⟩,
  ⟨none, some 8, .mv (.tmp 31)⟩])
 .ret) .skip)))))
 (.seq (.region [⟨none, some 32, .mv (.tmp 1)⟩,
  ⟨none, some 33, .bin .add (.tmp 32) (.const (.int .u64 4))⟩,
  ⟨none, some 8, .mv (.tmp 33)⟩])
 .ret))),
 [.tmp 8]⟩
theorem c_alu_Next : compF P0 pf Go.Proofs.Tryz.f45 = some L_alu_Next := by kernel_rfl
/-- undertow/ops.Target -/
abbrev n_ops_Target : Nat := 46
def L_ops_Target : LFn := ⟨15, (.seq (.region [⟨none, some 1, .box (.tmp 0)⟩,
  ⟨none, some 2, .mv (.const (.int .i64 0))⟩])
 (.seq (.seq (.region [⟨none, some 3, .fad 0 (.tmp 1)⟩,
  ⟨none, some 4, .load1 (.tmp 3)⟩,
  ⟨none, some 5, .call (.func 42) [(.tmp 4)]⟩])
 (.block 0 (.seq (.seq (.region [⟨none, some 7, .bin .eql (.tmp 5) (.const (.int .i64 0))⟩,
  ⟨none, some 6, .mv (.tmp 7)⟩])
 (.cond (.tmp 6) .skip (.seq (.region [⟨none, some 8, .bin .eql (.tmp 5) (.const (.int .i64 3))⟩,
  ⟨none, some 6, .mv (.tmp 8)⟩])
 (.cond (.tmp 6) .skip (.seq (.region [⟨none, some 9, .bin .eql (.tmp 5) (.const (.int .i64 5))⟩,
  ⟨none, some 6, .mv (.tmp 9)⟩])
 (.cond (.tmp 6) .skip (.seq (.region [⟨none, some 10, .bin .eql (.tmp 5) (.const (.int .i64 8))⟩,
  ⟨none, some 6, .mv (.tmp 10)⟩])
 (.cond (.tmp 6) .skip (.region [⟨none, some 11, .bin .eql (.tmp 5) (.const (.int .i64 9))⟩,
  ⟨none, some 6, .mv (.tmp 11)⟩])))))))))
 (.cond (.tmp 6) (.seq (.region [⟨none, some 2, .mv (.const (.int .i64 0))⟩])
 .ret) .skip))))
 (.seq (.region [⟨none, some 12, .fad 1 (.tmp 1)⟩,
  ⟨none, some 13, .load1 (.tmp 12)⟩,
  ⟨none, some 14, .call (.func 88) [(.tmp 13)]⟩,
  ⟨none, some 2, .mv (.tmp 14)⟩])
 .ret))),
 [.tmp 2]⟩
theorem c_ops_Target : compF P0 pf Go.Proofs.Tryz.f46 = some L_ops_Target := by kernel_rfl
/-- undertow/seq.value -/
abbrev n_seq_value : Nat := 47
def L_seq_value : LFn := ⟨38, (.seq (.region [⟨none, some 4, .box (.tmp 0)⟩,
  ⟨none, some 5, .box (.tmp 1)⟩,
  ⟨none, some 8, .mv (.const (.int .u64 0))⟩])
 (.seq (.block 0 (.seq (.region [⟨none, some 10, .fad 0 (.tmp 5)⟩,
  ⟨none, some 11, .load1 (.tmp 10)⟩,
  ⟨none, some 12, .call (.func 39) [(.tmp 11)]⟩,
  ⟨none, some 9, .mv (.tmp 12)⟩])
 (.cond (.tmp 9) (.seq (.region [⟨none, some 13, .fad 0 (.tmp 5)⟩,
  ⟨none, some 14, .load1 (.tmp 13)⟩,
  ⟨none, some 15, .mv (.tmp 2)⟩,
  ⟨none, some 16, .call (.func 89) [(.tmp 14), (.tmp 15)]⟩,
  ⟨none, some 8, .mv (.tmp 16)⟩])
 .ret) (.seq (.region [⟨none, some 18, .fad 0 (.tmp 5)⟩,
  ⟨none, some 19, .load1 (.tmp 18)⟩,
  ⟨none, some 20, .call (.func 42) [(.tmp 19)]⟩,
  ⟨none, some 21, .bin .neq (.tmp 20) (.const (.int .i64 11))⟩,
  ⟨none, some 17, .mv (.tmp 21)⟩])
 (.cond (.tmp 17) (.seq (.region [⟨none, some 22, .loadN 9 (.tmp 5)⟩,
  ⟨none, some 23, .fad 0 (.tmp 4)⟩,
  ⟨none, some 24, .load1 (.tmp 23)⟩,
  ⟨none, some 25, .fad 2 (.tmp 5)⟩,
  ⟨none, some 26, .load1 (.tmp 25)⟩,
  ⟨none, some 27, .fad 1 (.tmp 4)⟩,
  ⟨none, some 28, .iadA 32 1 (.tmp 27) (.tmp 26)⟩,
  ⟨none, some 29, .load1 (.tmp 28)⟩,
  ⟨none, some 30, .fad 3 (.tmp 5)⟩,
  ⟨none, some 31, .load1 (.tmp 30)⟩,
  ⟨none, some 32, .fad 1 (.tmp 4)⟩,
  ⟨none, some 33, .iadA 32 1 (.tmp 32) (.tmp 31)⟩,
  ⟨none, some 34, .load1 (.tmp 33)⟩,
  ⟨none, some 35, .call (.func 90) [(.tmp 22), (.tmp 24), (.tmp 29), (.tmp 34)]⟩,
  ⟨none, some 8, .mv (.tmp 35)⟩])
 .ret) (.seq (.region [⟨none, some 37, .mv (.tmp 3)⟩,
  ⟨none, some 36, .mv (.tmp 37)⟩])
 (.cond (.tmp 36) (.seq (.region [⟨none, some 8, .mv (.const (.int .u64 1))⟩])
 .ret) .skip)))))))
 (.seq (.region [⟨none, some 8, .mv (.const (.int .u64 0))⟩])
 .ret))),
 [.tmp 8]⟩
theorem c_seq_value : compF P0 pf Go.Proofs.Tryz.f47 = some L_seq_value := by kernel_rfl
/-- slices.Clone[[]byte,byte] -/
abbrev n_slices_Clone_byte_byte : Nat := 48
def L_slices_Clone_byte_byte : LFn := ⟨8, (.seq (.region [⟨none, some 2, .mv (.const (.slice none 0 0))⟩])
 (.seq (.seq (.region [⟨none, some 3, .mv (.tmp 0)⟩,
  ⟨none, some 4, .isNil 2 false (.tmp 3)⟩])
 (.cond (.tmp 4) (.seq (.region [⟨none, some 2, .mv (.const (.slice none 0 0))⟩])
 .ret) .skip))
 (.seq (.region [⟨none, some 5, .row 1 0 (zeroRow [.int .u8 0] 0) []⟩,
  ⟨none, some 6, .mv (.tmp 0)⟩,
  ⟨none, some 7, .app 1 1 (.tmp 5) (.tmp 6)⟩,
  ⟨none, some 2, .mv (.tmp 7)⟩])
 .ret))),
 [.tmp 2]⟩
theorem c_slices_Clone_byte_byte : compF P0 pf Go.Proofs.Tryz.f48 = some L_slices_Clone_byte_byte := by kernel_rfl
/-- (*undertow/seq.alone).ahead -/
abbrev n_seq_alone_ahead : Nat := 49
def L_seq_alone_ahead : LFn := ⟨81, (.seq (.region [⟨none, some 4, .box (.tmp 1)⟩,
  ⟨none, some 6, .mv (.const (.int .u64 0))⟩,
  ⟨none, some 7, .mv (.const (.bool false))⟩])
 (.seq (.region [⟨none, some 14, .mv (.tmp 2)⟩,
  ⟨none, some 15, .fad 0 (.tmp 4)⟩,
  ⟨none, some 16, .load1 (.tmp 15)⟩,
  ⟨none, some 17, .call (.func 37) [(.tmp 14), (.tmp 16)]⟩,
  ⟨none, some 13, .mv (.tmp 17)⟩,
  ⟨none, some 18, .ext (.tmp 13) 0⟩,
  ⟨none, some 19, .ext (.tmp 13) 1⟩,
  ⟨none, some 8, .alloc [.int .i64 0, .int .i64 0, .int .i64 0, .int .i64 0, .int .i64 0, .bool false, .bool false, .int .i64 0, .int .i64 0]⟩,
  ⟨none, none, .store 9 (.tmp 8) (.tmp 18)⟩,
  ⟨none, some 9, .mv (.tmp 19)⟩])
 (.seq (.region [⟨none, some 20, .fad 0 (.tmp 8)⟩,
  ⟨none, some 21, .load1 (.tmp 20)⟩,
  ⟨none, some 22, .call (.func 41) [(.tmp 21)]⟩,
  ⟨none, some 10, .mv (.tmp 22)⟩])
 (.seq (.region [⟨none, some 23, .loadN 9 (.tmp 8)⟩,
  ⟨none, some 24, .fad 2 (.tmp 8)⟩,
  ⟨none, some 25, .load1 (.tmp 24)⟩,
  ⟨none, some 26, .fad 1 (.tmp 4)⟩,
  ⟨none, some 27, .iadA 32 1 (.tmp 26) (.tmp 25)⟩,
  ⟨none, some 28, .load1 (.tmp 27)⟩,
  ⟨none, some 29, .call (.func 83) [(.tmp 23), (.tmp 28)]⟩,
  ⟨none, some 11, .mv (.tmp 29)⟩])
 (.seq (.seq (.region [⟨none, some 30, .mv (.tmp 9)⟩,
  ⟨none, some 31, .bin .neq (.tmp 30) (.const (.int .i64 0))⟩,
  ⟨none, some 32, .mv (.tmp 31)⟩,
  ⟨some (32, false), some 33, .mv (.tmp 10)⟩,
  ⟨some (32, false), some 34, .bin .eql (.tmp 33) (.const (.int .i64 0))⟩,
  ⟨none, some 35, .pick (.tmp 32) (.const (.bool true)) (.tmp 34)⟩,
  ⟨none, some 36, .mv (.tmp 35)⟩,
  ⟨some (36, false), some 37, .fad 0 (.tmp 8)⟩,
  ⟨some (36, false), some 38, .load1 (.tmp 37)⟩,
  ⟨some (36, false), some 39, .mv (.tmp 11)⟩,
  ⟨some (36, false), some 40, .mv (.tmp 0)⟩,
  ⟨some (36, false), some 41, .nilchk (.tmp 40)⟩,
  ⟨some (36, false), some 42, .fad 0 (.tmp 41)⟩,
  ⟨some (36, false), some 43, .load1 (.tmp 42)⟩,
  ⟨some (36, false), some 44, .lenS (.tmp 43)⟩,
  ⟨some (36, false), some 45, .call (.func 84) [(.tmp 38), (.tmp 39), (.tmp 44)]⟩,
  ⟨some (36, false), some 46, .bin .neq (.tmp 45) (.const (.int .i64 0))⟩,
  ⟨none, some 47, .pick (.tmp 36) (.const (.bool true)) (.tmp 46)⟩])
 (.cond (.tmp 47) (.seq (.region [⟨none, some 6, .mv (.const (.int .u64 0))⟩,
  ⟨none, some 7, .mv (.const (.bool false))⟩])
 .ret) .skip))
 (.seq (.region [⟨none, some 48, .mv (.tmp 11)⟩,
  ⟨none, some 49, .convI .i64 (.tmp 48)⟩,
  ⟨none, some 12, .mv (.tmp 49)⟩])
 (.seq (.region [⟨none, some 50, .mv (.tmp 0)⟩,
  ⟨none, some 51, .nilchk (.tmp 50)⟩,
  ⟨none, some 52, .fad 0 (.tmp 51)⟩,
  ⟨none, some 53, .load1 (.tmp 52)⟩,
  ⟨none, some 54, .mv (.tmp 12)⟩,
  ⟨none, some 55, .mv (.tmp 12)⟩,
  ⟨none, some 56, .mv (.tmp 10)⟩,
  ⟨none, some 57, .bin .add (.tmp 55) (.tmp 56)⟩,
  ⟨none, some 58, .slc 1 (.tmp 53) (some (.tmp 54)) (some (.tmp 57)) none⟩,
  ⟨none, some 59, .call (.func 21) [(.tmp 58)]⟩,
  ⟨none, some 60, .mv (.tmp 0)⟩,
  ⟨none, some 61, .nilchk (.tmp 60)⟩,
  ⟨none, some 62, .fad 3 (.tmp 61)⟩,
  ⟨none, some 63, .load1 (.tmp 62)⟩,
  ⟨none, some 64, .un .not (.tmp 63)⟩,
  ⟨none, some 65, .mv (.tmp 64)⟩,
  ⟨some (65, false), some 66, .mv (.tmp 0)⟩,
  ⟨some (65, false), some 67, .nilchk (.tmp 66)⟩,
  ⟨some (65, false), some 68, .fad 1 (.tmp 67)⟩,
  ⟨some (65, false), some 69, .load1 (.tmp 68)⟩,
  ⟨some (65, false), some 70, .mv (.tmp 12)⟩,
  ⟨some (65, false), some 71, .bin .neq (.tmp 69) (.tmp 70)⟩,
  ⟨none, some 72, .pick (.tmp 65) (.const (.bool true)) (.tmp 71)⟩,
  ⟨none, some 73, .mv (.tmp 72)⟩,
  ⟨some (73, false), some 74, .mv (.tmp 0)⟩,
  ⟨some (73, false), some 75, .nilchk (.tmp 74)⟩,
  ⟨some (73, false), some 76, .fad 2 (.tmp 75)⟩,
  ⟨some (73, false), some 77, .load1 (.tmp 76)⟩,
  ⟨some (73, false), some 78, .mv (.tmp 10)⟩,
  ⟨some (73, false), some 79, .bin .neq (.tmp 77) (.tmp 78)⟩,
  ⟨none, some 80, .pick (.tmp 73) (.const (.bool true)) (.tmp 79)⟩,
  ⟨none, some 6, .mv (.tmp 59)⟩,
  ⟨none, some 7, .mv (.tmp 80)⟩])
 .ret))))))),
 [.tmp 6, .tmp 7]⟩
theorem c_seq_alone_ahead : compF P0 pf Go.Proofs.Tryz.f49 = some L_seq_alone_ahead := by kernel_rfl
/-- (*undertow/seq.alone).behind -/
abbrev n_seq_alone_behind : Nat := 50
def L_seq_alone_behind : LFn := ⟨57, (.seq (.region [⟨none, some 3, .box (.tmp 1)⟩])
 (.seq (.seq (.region [⟨none, some 5, .fad 10 (.tmp 3)⟩,
  ⟨none, some 6, .load1 (.tmp 5)⟩,
  ⟨none, some 7, .bin .neq (.tmp 6) (.const (.int .i64 0))⟩])
 (.cond (.tmp 7) .ret .skip))
 (.seq (.region [⟨none, some 8, .fad 1 (.tmp 3)⟩,
  ⟨none, some 9, .fad 0 (.tmp 8)⟩,
  ⟨none, some 10, .load1 (.tmp 9)⟩,
  ⟨none, some 11, .call (.func 41) [(.tmp 10)]⟩,
  ⟨none, some 4, .mv (.tmp 11)⟩])
 (.seq (.seq (.region [⟨none, some 12, .fad 1 (.tmp 3)⟩,
  ⟨none, some 13, .fad 0 (.tmp 12)⟩,
  ⟨none, some 14, .load1 (.tmp 13)⟩,
  ⟨none, some 15, .call (.func 42) [(.tmp 14)]⟩])
 (.block 0 (.seq (.region [⟨none, some 17, .bin .eql (.tmp 15) (.const (.int .i64 10))⟩,
  ⟨none, some 16, .mv (.tmp 17)⟩])
 (.cond (.tmp 16) (.region [⟨none, some 18, .mv (.tmp 0)⟩,
  ⟨none, some 19, .mv (.tmp 0)⟩,
  ⟨none, some 20, .mv (.tmp 0)⟩,
  ⟨none, some 21, .fad 12 (.tmp 3)⟩,
  ⟨none, some 22, .load1 (.tmp 21)⟩,
  ⟨none, some 23, .convI .i64 (.tmp 22)⟩,
  ⟨none, some 24, .mv (.tmp 4)⟩,
  ⟨none, some 25, .nilchk (.tmp 18)⟩,
  ⟨none, some 26, .fad 1 (.tmp 25)⟩,
  ⟨none, none, .store 1 (.tmp 26) (.tmp 23)⟩,
  ⟨none, some 27, .nilchk (.tmp 19)⟩,
  ⟨none, some 28, .fad 2 (.tmp 27)⟩,
  ⟨none, none, .store 1 (.tmp 28) (.tmp 24)⟩,
  ⟨none, some 29, .nilchk (.tmp 20)⟩,
  ⟨none, some 30, .fad 3 (.tmp 29)⟩,
  ⟨none, none, .store 1 (.tmp 30) (.const (.bool true))⟩]) (.seq (.region [⟨none, some 32, .bin .eql (.tmp 15) (.const (.int .i64 11))⟩,
  ⟨none, some 31, .mv (.tmp 32)⟩])
 (.cond (.tmp 31) (.region [⟨none, some 33, .mv (.tmp 0)⟩,
  ⟨none, some 34, .nilchk (.tmp 33)⟩,
  ⟨none, some 35, .fad 3 (.tmp 34)⟩,
  ⟨none, none, .store 1 (.tmp 35) (.const (.bool false))⟩]) .skip))))))
 (.seq (.region [⟨none, some 36, .fad 1 (.tmp 3)⟩,
  ⟨none, some 37, .fad 0 (.tmp 36)⟩,
  ⟨none, some 38, .load1 (.tmp 37)⟩,
  ⟨none, some 39, .call (.func 43) [(.tmp 38)]⟩,
  ⟨none, some 40, .mv (.tmp 39)⟩,
  ⟨some (40, true), some 41, .fad 15 (.tmp 3)⟩,
  ⟨some (40, true), some 42, .load1 (.tmp 41)⟩,
  ⟨some (40, true), some 43, .un .not (.tmp 42)⟩,
  ⟨none, some 44, .pick (.tmp 40) (.tmp 43) (.const (.bool false))⟩])
 (.cond (.tmp 44) (.region [⟨none, some 45, .mv (.tmp 0)⟩,
  ⟨none, some 46, .nilchk (.tmp 45)⟩,
  ⟨none, some 47, .fad 0 (.tmp 46)⟩,
  ⟨none, some 48, .load1 (.tmp 47)⟩,
  ⟨none, some 49, .fad 12 (.tmp 3)⟩,
  ⟨none, some 50, .load1 (.tmp 49)⟩,
  ⟨none, some 51, .slc 1 (.tmp 48) (some (.tmp 50)) none none⟩,
  ⟨none, some 52, .fad 14 (.tmp 3)⟩,
  ⟨none, some 53, .load1 (.tmp 52)⟩,
  ⟨none, some 54, .mv (.tmp 4)⟩,
  ⟨none, some 55, .call (.func 36) [(.tmp 53), (.tmp 54)]⟩,
  ⟨none, some 56, .cpy 1 (.tmp 51) (.tmp 55)⟩]) .skip)))))),
 []⟩
theorem c_seq_alone_behind : compF P0 pf Go.Proofs.Tryz.f50 = some L_seq_alone_behind := by kernel_rfl
/-- undertow/undertowref05.Name -/
abbrev n_ref05_Name : Nat := 51
def L_ref05_Name : LFn := ⟨18, (.seq (.region [⟨none, some 2, .mv (.const (.string ⟨#[]⟩))⟩])
 (.seq (.region [⟨none, some 4, .call (.func 91) []⟩,
  ⟨none, some 3, .mv (.tmp 4)⟩])
 (.seq (.seq (.region [⟨none, some 5, .mv (.tmp 0)⟩,
  ⟨none, some 6, .bin .lss (.tmp 5) (.const (.int .i64 1))⟩,
  ⟨none, some 7, .mv (.tmp 6)⟩,
  ⟨some (7, false), some 8, .mv (.tmp 0)⟩,
  ⟨some (7, false), some 9, .mv (.tmp 3)⟩,
  ⟨some (7, false), some 10, .lenS (.tmp 9)⟩,
  ⟨some (7, false), some 11, .bin .gtr (.tmp 8) (.tmp 10)⟩,
  ⟨none, some 12, .pick (.tmp 7) (.const (.bool true)) (.tmp 11)⟩])
 (.cond (.tmp 12) (.seq (.region [⟨none, some 2, .mv (.const (.string ⟨#[]⟩))⟩])
 .ret) .skip))
 (.seq (.region [⟨none, some 13, .mv (.tmp 3)⟩,
  ⟨none, some 14, .mv (.tmp 0)⟩,
  ⟨none, some 15, .bin .sub (.tmp 14) (.const (.int .i64 1))⟩,
  ⟨none, some 16, .iadS 1 (.tmp 13) (.tmp 15)⟩,
  ⟨none, some 17, .load1 (.tmp 16)⟩,
  ⟨none, some 2, .mv (.tmp 17)⟩])
 .ret)))),
 [.tmp 2]⟩
theorem c_ref05_Name : compF P0 pf Go.Proofs.Tryz.f51 = some L_ref05_Name := by kernel_rfl
/-- undertow/undertowref05.Sort -/
abbrev n_ref05_Sort : Nat := 52
def L_ref05_Sort : LFn := ⟨28, (.seq (.region [⟨none, some 2, .mv (.const (.int .i64 0))⟩])
 (.seq (.region [⟨none, some 5, .row 1 12 (zeroRow [.int .i64 0] 12) [(0, 1, (.const (.int .i64 2))), (1, 1, (.const (.int .i64 2))), (2, 1, (.const (.int .i64 6))), (3, 1, (.const (.int .i64 7))), (4, 1, (.const (.int .i64 4))), (5, 1, (.const (.int .i64 13))), (6, 1, (.const (.int .i64 15))), (7, 1, (.const (.int .i64 2))), (8, 1, (.const (.int .i64 2))), (9, 1, (.const (.int .i64 2))), (10, 1, (.const (.int .i64 2))), (11, 1, (.const (.int .i64 18)))]⟩,
  ⟨none, some 3, .mv (.tmp 5)⟩])
 (.seq (.seq (.region [⟨none, some 6, .mv (.tmp 0)⟩,
  ⟨none, some 7, .bin .lss (.tmp 6) (.const (.int .i64 1))⟩])
 (.cond (.tmp 7) (.seq (.region [⟨none, some 2, .mv (.const (.int .i64 0))⟩])
 .ret) .skip))
 (.seq (.seq (.region [⟨none, some 4, .mv (.const (.int .i64 0))⟩])
 (.block 0 (.loop (.seq (.seq (.region [⟨none, some 8, .mv (.tmp 4)⟩,
  ⟨none, some 9, .mv (.tmp 3)⟩,
  ⟨none, some 10, .lenS (.tmp 9)⟩,
  ⟨none, some 11, .bin .lss (.tmp 8) (.tmp 10)⟩])
 (.cond (.tmp 11) .skip (.exit 0)))
 (.seq (.block 1 (.seq (.seq (.region [⟨none, some 14, .mv (.tmp 0)⟩,
  ⟨none, some 15, .mv (.tmp 3)⟩,
  ⟨none, some 16, .mv (.tmp 4)⟩,
  ⟨none, some 17, .iadS 1 (.tmp 15) (.tmp 16)⟩,
  ⟨none, some 18, .load1 (.tmp 17)⟩,
  ⟨none, some 19, .bin .leq (.tmp 14) (.tmp 18)⟩])
 (.cond (.tmp 19) (.seq (.region [⟨none, some 20, .mv (.tmp 4)⟩,
  ⟨none, some 21, .bin .add (.tmp 20) (.const (.int .i64 1))⟩,
  ⟨none, some 2, .mv (.tmp 21)⟩])
 .ret) .skip))
 (.region [⟨none, some 22, .mv (.tmp 0)⟩,
  ⟨none, some 23, .mv (.tmp 3)⟩,
  ⟨none, some 24, .mv (.tmp 4)⟩,
  ⟨none, some 25, .iadS 1 (.tmp 23) (.tmp 24)⟩,
  ⟨none, some 26, .load1 (.tmp 25)⟩,
  ⟨none, some 27, .bin .sub (.tmp 22) (.tmp 26)⟩,
  ⟨none, some 0, .mv (.tmp 27)⟩])))
 (.region [⟨none, some 12, .mv (.tmp 4)⟩,
  ⟨none, some 13, .bin .add (.tmp 12) (.const (.int .i64 1))⟩,
  ⟨none, some 4, .mv (.tmp 13)⟩]))))))
 (.seq (.region [⟨none, some 2, .mv (.const (.int .i64 0))⟩])
 .ret))))),
 [.tmp 2]⟩
theorem c_ref05_Sort : compF P0 pf Go.Proofs.Tryz.f52 = some L_ref05_Sort := by kernel_rfl
/-- undertow/decode.inst -/
abbrev n_decode_inst : Nat := 53
def L_decode_inst : LFn := ⟨166, (.seq (.region [⟨none, some 1, .box (.tmp 0)⟩,
  ⟨none, some 2, .alloc [.int .i64 0, .int .i64 0, .int .i64 0, .int .i64 0, .int .i64 0, .bool false, .bool false, .int .i64 0, .int .i64 0]⟩])
 (.seq (.region [⟨none, some 9, .fad 1 (.tmp 1)⟩,
  ⟨none, some 10, .load1 (.tmp 9)⟩,
  ⟨none, some 11, .fad 2 (.tmp 1)⟩,
  ⟨none, some 12, .load1 (.tmp 11)⟩,
  ⟨none, some 13, .fad 3 (.tmp 1)⟩,
  ⟨none, some 14, .load1 (.tmp 13)⟩,
  ⟨none, some 15, .build [.int .i64 0, .int .i64 0, .int .i64 0, .int .i64 0, .int .i64 0, .bool false, .bool false, .int .i64 0, .int .i64 0] [(1, 1, (.tmp 10)), (2, 1, (.tmp 12)), (3, 1, (.tmp 14))]⟩,
  ⟨none, some 3, .alloc [.int .i64 0, .int .i64 0, .int .i64 0, .int .i64 0, .int .i64 0, .bool false, .bool false, .int .i64 0, .int .i64 0]⟩,
  ⟨none, none, .store 9 (.tmp 3) (.tmp 15)⟩])
 (.seq (.seq (.region [⟨none, some 16, .fad 0 (.tmp 1)⟩,
  ⟨none, some 17, .load1 (.tmp 16)⟩,
  ⟨none, some 18, .bin .and (.tmp 17) (.const (.int .u32 127))⟩])
 (.block 0 (.seq (.region [⟨none, some 20, .bin .eql (.tmp 18) (.const (.int .u32 55))⟩,
  ⟨none, some 19, .mv (.tmp 20)⟩])
 (.cond (.tmp 19) (.region [⟨none, some 21, .fad 0 (.tmp 1)⟩,
  ⟨none, some 22, .load1 (.tmp 21)⟩,
  ⟨none, some 23, .call (.func 92) [(.const (.int .i64 4)), (.tmp 22)]⟩,
  ⟨none, some 24, .fad 0 (.tmp 3)⟩,
  ⟨none, none, .store 1 (.tmp 24) (.const (.int .i64 1))⟩,
  ⟨none, some 25, .fad 4 (.tmp 3)⟩,
  ⟨none, none, .store 1 (.tmp 25) (.tmp 23)⟩]) (.seq (.region [⟨none, some 27, .bin .eql (.tmp 18) (.const (.int .u32 23))⟩,
  ⟨none, some 26, .mv (.tmp 27)⟩])
 (.cond (.tmp 26) (.region [⟨none, some 28, .fad 0 (.tmp 1)⟩,
  ⟨none, some 29, .load1 (.tmp 28)⟩,
  ⟨none, some 30, .call (.func 92) [(.const (.int .i64 4)), (.tmp 29)]⟩,
  ⟨none, some 31, .fad 0 (.tmp 3)⟩,
  ⟨none, none, .store 1 (.tmp 31) (.const (.int .i64 2))⟩,
  ⟨none, some 32, .fad 4 (.tmp 3)⟩,
  ⟨none, none, .store 1 (.tmp 32) (.tmp 30)⟩]) (.seq (.region [⟨none, some 34, .bin .eql (.tmp 18) (.const (.int .u32 111))⟩,
  ⟨none, some 33, .mv (.tmp 34)⟩])
 (.cond (.tmp 33) (.region [⟨none, some 35, .fad 0 (.tmp 1)⟩,
  ⟨none, some 36, .load1 (.tmp 35)⟩,
  ⟨none, some 37, .call (.func 92) [(.const (.int .i64 5)), (.tmp 36)]⟩,
  ⟨none, some 38, .fad 0 (.tmp 3)⟩,
  ⟨none, none, .store 1 (.tmp 38) (.const (.int .i64 3))⟩,
  ⟨none, some 39, .fad 4 (.tmp 3)⟩,
  ⟨none, none, .store 1 (.tmp 39) (.tmp 37)⟩]) (.seq (.region [⟨none, some 41, .bin .eql (.tmp 18) (.const (.int .u32 103))⟩,
  ⟨none, some 40, .mv (.tmp 41)⟩])
 (.cond (.tmp 40) (.seq (.region [⟨none, some 42, .fad 4 (.tmp 1)⟩,
  ⟨none, some 43, .load1 (.tmp 42)⟩,
  ⟨none, some 44, .bin .eql (.tmp 43) (.const (.int .u32 0))⟩])
 (.cond (.tmp 44) (.region [⟨none, some 45, .fad 0 (.tmp 1)⟩,
  ⟨none, some 46, .load1 (.tmp 45)⟩,
  ⟨none, some 47, .call (.func 92) [(.const (.int .i64 1)), (.tmp 46)]⟩,
  ⟨none, some 48, .fad 0 (.tmp 3)⟩,
  ⟨none, none, .store 1 (.tmp 48) (.const (.int .i64 4))⟩,
  ⟨none, some 49, .fad 4 (.tmp 3)⟩,
  ⟨none, none, .store 1 (.tmp 49) (.tmp 47)⟩]) .skip)) (.seq (.region [⟨none, some 51, .bin .eql (.tmp 18) (.const (.int .u32 99))⟩,
  ⟨none, some 50, .mv (.tmp 51)⟩])
 (.cond (.tmp 50) (.seq (.region [⟨none, some 52, .build [.int .i64 0, .int .i64 0, .int .i64 0, .int .i64 0, .int .i64 0, .int .i64 0, .int .i64 0, .int .i64 0] [(0, 1, (.const (.int .i64 5))), (1, 1, (.const (.int .i64 6))), (4, 1, (.const (.int .i64 7))), (5, 1, (.const (.int .i64 8))), (6, 1, (.const (.int .i64 9))), (7, 1, (.const (.int .i64 10)))]⟩,
  ⟨none, some 4, .alloc [.int .i64 0, .int .i64 0, .int .i64 0, .int .i64 0, .int .i64 0, .int .i64 0, .int .i64 0, .int .i64 0]⟩,
  ⟨none, none, .store 8 (.tmp 4) (.tmp 52)⟩])
 (.region [⟨none, some 53, .fad 4 (.tmp 1)⟩,
  ⟨none, some 54, .load1 (.tmp 53)⟩,
  ⟨none, some 55, .iadA 8 1 (.tmp 4) (.tmp 54)⟩,
  ⟨none, some 56, .load1 (.tmp 55)⟩,
  ⟨none, some 57, .fad 0 (.tmp 1)⟩,
  ⟨none, some 58, .load1 (.tmp 57)⟩,
  ⟨none, some 59, .call (.func 92) [(.const (.int .i64 3)), (.tmp 58)]⟩,
  ⟨none, some 60, .fad 0 (.tmp 3)⟩,
  ⟨none, none, .store 1 (.tmp 60) (.tmp 56)⟩,
  ⟨none, some 61, .fad 4 (.tmp 3)⟩,
  ⟨none, none, .store 1 (.tmp 61) (.tmp 59)⟩])) (.seq (.region [⟨none, some 63, .bin .eql (.tmp 18) (.const (.int .u32 3))⟩,
  ⟨none, some 62, .mv (.tmp 63)⟩])
 (.cond (.tmp 62) (.seq (.region [⟨none, some 64, .fad 4 (.tmp 1)⟩,
  ⟨none, some 65, .load1 (.tmp 64)⟩,
  ⟨none, some 66, .bin .lss (.tmp 65) (.const (.int .u32 7))⟩])
 (.cond (.tmp 66) (.region [⟨none, some 67, .fad 4 (.tmp 1)⟩,
  ⟨none, some 68, .load1 (.tmp 67)⟩,
  ⟨none, some 69, .convI .i64 (.tmp 68)⟩,
  ⟨none, some 70, .bin .add (.const (.int .i64 11)) (.tmp 69)⟩,
  ⟨none, some 71, .fad 0 (.tmp 1)⟩,
  ⟨none, some 72, .load1 (.tmp 71)⟩,
  ⟨none, some 73, .call (.func 92) [(.const (.int .i64 1)), (.tmp 72)]⟩,
  ⟨none, some 74, .fad 0 (.tmp 3)⟩,
  ⟨none, none, .store 1 (.tmp 74) (.tmp 70)⟩,
  ⟨none, some 75, .fad 4 (.tmp 3)⟩,
  ⟨none, none, .store 1 (.tmp 75) (.tmp 73)⟩]) .skip)) (.seq (.region [⟨none, some 77, .bin .eql (.tmp 18) (.const (.int .u32 35))⟩,
  ⟨none, some 76, .mv (.tmp 77)⟩])
 (.cond (.tmp 76) (.seq (.region [⟨none, some 78, .fad 4 (.tmp 1)⟩,
  ⟨none, some 79, .load1 (.tmp 78)⟩,
  ⟨none, some 80, .bin .lss (.tmp 79) (.const (.int .u32 4))⟩])
 (.cond (.tmp 80) (.region [⟨none, some 81, .fad 4 (.tmp 1)⟩,
  ⟨none, some 82, .load1 (.tmp 81)⟩,
  ⟨none, some 83, .convI .i64 (.tmp 82)⟩,
  ⟨none, some 84, .bin .add (.const (.int .i64 18)) (.tmp 83)⟩,
  ⟨none, some 85, .fad 0 (.tmp 1)⟩,
  ⟨none, some 86, .load1 (.tmp 85)⟩,
  ⟨none, some 87, .call (.func 92) [(.const (.int .i64 2)), (.tmp 86)]⟩,
  ⟨none, some 88, .fad 0 (.tmp 3)⟩,
  ⟨none, none, .store 1 (.tmp 88) (.tmp 84)⟩,
  ⟨none, some 89, .fad 4 (.tmp 3)⟩,
  ⟨none, none, .store 1 (.tmp 89) (.tmp 87)⟩]) .skip)) (.seq (.region [⟨none, some 91, .bin .eql (.tmp 18) (.const (.int .u32 19))⟩,
  ⟨none, some 90, .mv (.tmp 91)⟩])
 (.cond (.tmp 90) (.region [⟨none, some 93, .loadN 6 (.tmp 1)⟩,
  ⟨none, some 94, .call (.func 93) [(.tmp 93)]⟩,
  ⟨none, some 92, .mv (.tmp 94)⟩,
  ⟨none, some 95, .ext (.tmp 92) 0⟩,
  ⟨none, some 96, .ext (.tmp 92) 1⟩,
  ⟨none, some 97, .fad 0 (.tmp 3)⟩,
  ⟨none, none, .store 1 (.tmp 97) (.tmp 95)⟩,
  ⟨none, some 98, .fad 4 (.tmp 3)⟩,
  ⟨none, none, .store 1 (.tmp 98) (.tmp 96)⟩]) (.seq (.region [⟨none, some 100, .bin .eql (.tmp 18) (.const (.int .u32 27))⟩,
  ⟨none, some 99, .mv (.tmp 100)⟩])
 (.cond (.tmp 99) (.region [⟨none, some 102, .loadN 6 (.tmp 1)⟩,
  ⟨none, some 103, .call (.func 94) [(.tmp 102)]⟩,
  ⟨none, some 101, .mv (.tmp 103)⟩,
  ⟨none, some 104, .ext (.tmp 101) 0⟩,
  ⟨none, some 105, .ext (.tmp 101) 1⟩,
  ⟨none, some 106, .fad 0 (.tmp 3)⟩,
  ⟨none, none, .store 1 (.tmp 106) (.tmp 104)⟩,
  ⟨none, some 107, .fad 4 (.tmp 3)⟩,
  ⟨none, none, .store 1 (.tmp 107) (.tmp 105)⟩]) (.seq (.region [⟨none, some 109, .bin .eql (.tmp 18) (.const (.int .u32 51))⟩,
  ⟨none, some 108, .mv (.tmp 109)⟩])
 (.cond (.tmp 108) (.seq (.region [⟨none, some 111, .call (.func 95) []⟩,
  ⟨none, some 110, .mv (.tmp 111)⟩,
  ⟨none, some 112, .ext (.tmp 110) 0⟩,
  ⟨none, some 113, .ext (.tmp 110) 1⟩,
  ⟨none, some 5, .alloc [.int .i64 0, .int .i64 0, .int .i64 0, .int .i64 0, .int .i64 0, .int .i64 0, .int .i64 0, .int .i64 0]⟩,
  ⟨none, some 6, .alloc [.int .i64 0, .int .i64 0, .int .i64 0, .int .i64 0, .int .i64 0, .int .i64 0, .int .i64 0, .int .i64 0]⟩,
  ⟨none, none, .store 8 (.tmp 5) (.tmp 112)⟩,
  ⟨none, none, .store 8 (.tmp 6) (.tmp 113)⟩])
 (.region [⟨none, some 114, .loadN 6 (.tmp 1)⟩,
  ⟨none, some 115, .loadN 8 (.tmp 5)⟩,
  ⟨none, some 116, .loadN 8 (.tmp 6)⟩,
  ⟨none, some 117, .call (.func 96) [(.tmp 114), (.tmp 115), (.tmp 116)]⟩,
  ⟨none, some 118, .fad 0 (.tmp 3)⟩,
  ⟨none, none, .store 1 (.tmp 118) (.tmp 117)⟩])) (.seq (.region [⟨none, some 120, .bin .eql (.tmp 18) (.const (.int .u32 59))⟩,
  ⟨none, some 119, .mv (.tmp 120)⟩])
 (.cond (.tmp 119) (.seq (.region [⟨none, some 122, .call (.func 97) []⟩,
  ⟨none, some 121, .mv (.tmp 122)⟩,
  ⟨none, some 123, .ext (.tmp 121) 0⟩,
  ⟨none, some 124, .ext (.tmp 121) 1⟩,
  ⟨none, some 7, .alloc [.int .i64 0, .int .i64 0, .int .i64 0, .int .i64 0, .int .i64 0, .int .i64 0, .int .i64 0, .int .i64 0]⟩,
  ⟨none, some 8, .alloc [.int .i64 0, .int .i64 0, .int .i64 0, .int .i64 0, .int .i64 0, .int .i64 0, .int .i64 0, .int .i64 0]⟩,
  ⟨none, none, .store 8 (.tmp 7) (.tmp 123)⟩,
  ⟨none, none, .store 8 (.tmp 8) (.tmp 124)⟩])
 (.region [⟨none, some 125, .loadN 6 (.tmp 1)⟩,
  ⟨none, some 126, .loadN 8 (.tmp 7)⟩,
  ⟨none, some 127, .loadN 8 (.tmp 8)⟩,
  ⟨none, some 128, .call (.func 96) [(.tmp 125), (.tmp 126), (.tmp 127)]⟩,
  ⟨none, some 129, .fad 0 (.tmp 3)⟩,
  ⟨none, none, .store 1 (.tmp 129) (.tmp 128)⟩])) (.seq (.region [⟨none, some 131, .bin .eql (.tmp 18) (.const (.int .u32 15))⟩,
  ⟨none, some 130, .mv (.tmp 131)⟩])
 (.cond (.tmp 130) (.seq (.region [⟨none, some 132, .fad 4 (.tmp 1)⟩,
  ⟨none, some 133, .load1 (.tmp 132)⟩,
  ⟨none, some 134, .bin .eql (.tmp 133) (.const (.int .u32 0))⟩])
 (.cond (.tmp 134) (.seq (.region [⟨none, some 135, .fad 0 (.tmp 1)⟩,
  ⟨none, some 136, .load1 (.tmp 135)⟩,
  ⟨none, some 137, .call (.func 98) [(.tmp 136)]⟩,
  ⟨none, none, .store 9 (.tmp 2) (.tmp 137)⟩])
 .ret) .skip)) (.seq (.region [⟨none, some 139, .bin .eql (.tmp 18) (.const (.int .u32 115))⟩,
  ⟨none, some 138, .mv (.tmp 139)⟩])
 (.cond (.tmp 138) (.seq (.region [⟨none, some 140, .fad 0 (.tmp 1)⟩,
  ⟨none, some 141, .load1 (.tmp 140)⟩])
 (.block 1 (.seq (.region [⟨none, some 143, .bin .eql (.tmp 141) (.const (.int .u32 115))⟩,
  ⟨none, some 142, .mv (.tmp 143)⟩])
 (.cond (.tmp 142) (.region [⟨none, some 144, .fad 0 (.tmp 3)⟩,
  ⟨none, none, .store 1 (.tmp 144) (.const (.int .i64 52))⟩]) (.seq (.region [⟨none, some 146, .bin .eql (.tmp 141) (.const (.int .u32 1048691))⟩,
  ⟨none, some 145, .mv (.tmp 146)⟩])
 (.cond (.tmp 145) (.region [⟨none, some 147, .fad 0 (.tmp 3)⟩,
  ⟨none, none, .store 1 (.tmp 147) (.const (.int .i64 53))⟩]) .skip)))))) (.seq (.region [⟨none, some 149, .bin .eql (.tmp 18) (.const (.int .u32 47))⟩,
  ⟨none, some 148, .mv (.tmp 149)⟩])
 (.cond (.tmp 148) (.regionD [⟨none, some 150, .loadN 6 (.tmp 1)⟩,
  ⟨none, some 151, .call (.func 99) [(.tmp 150)]⟩,
  ⟨none, some 152, .fad 0 (.tmp 1)⟩,
  ⟨none, some 153, .load1 (.tmp 152)⟩,
  ⟨none, some 154, .bin .shr (.tmp 153) (.const (.int .u64 26))⟩,
  ⟨none, some 155, .bin .and (.tmp 154) (.const (.int .u32 1))⟩,
  ⟨none, some 156, .bin .eql (.tmp 155) (.const (.int .u32 1))⟩,
  ⟨none, some 157, .fad 0 (.tmp 1)⟩,
  ⟨none, some 158, .load1 (.tmp 157)⟩,
  ⟨none, some 159, .bin .shr (.tmp 158) (.const (.int .u64 25))⟩,
  ⟨none, some 160, .bin .and (.tmp 159) (.const (.int .u32 1))⟩,
  ⟨none, some 161, .bin .eql (.tmp 160) (.const (.int .u32 1))⟩,
  ⟨none, some 162, .fad 0 (.tmp 3)⟩,
  ⟨none, none, .store 1 (.tmp 162) (.tmp 151)⟩,
  ⟨none, some 163, .fad 5 (.tmp 3)⟩,
  ⟨none, none, .store 1 (.tmp 163) (.tmp 156)⟩,
  ⟨none, some 164, .fad 6 (.tmp 3)⟩,
  ⟨none, none, .store 1 (.tmp 164) (.tmp 161)⟩] [(3, 13), (8, 13), (8, 15)]) .skip))))))))))))))))))))))))))))))
 (.seq (.region [⟨none, some 165, .loadN 9 (.tmp 3)⟩,
  ⟨none, none, .store 9 (.tmp 2) (.tmp 165)⟩])
 .ret)))),
 [.cellN 2 9]⟩
theorem c_decode_inst : compF P0 pf Go.Proofs.Tryz.f53 = some L_decode_inst := by kernel_rfl
/-- undertow/decode.split -/
abbrev n_decode_split : Nat := 54
def L_decode_split : LFn := ⟨20, (.seq (.region [⟨none, some 1, .box (.tmp 0)⟩,
  ⟨none, some 2, .alloc [.int .u32 0, .int .i64 0, .int .i64 0, .int .i64 0, .int .u32 0, .int .u32 0]⟩])
 (.seq (.region [⟨none, some 4, .mkf 100 [] [(.tmp 1)]⟩,
  ⟨none, some 3, .mv (.tmp 4)⟩])
 (.seq (.regionD [⟨none, some 5, .load1 (.tmp 1)⟩,
  ⟨none, some 6, .mv (.tmp 3)⟩,
  ⟨none, some 7, .callP [100, 171, 173] (.tmp 6) [(.const (.int .i64 11)), (.const (.int .i64 7))]⟩,
  ⟨none, some 8, .convI .i64 (.tmp 7)⟩,
  ⟨none, some 9, .mv (.tmp 3)⟩,
  ⟨none, some 10, .callP [100, 171, 173] (.tmp 9) [(.const (.int .i64 19)), (.const (.int .i64 15))]⟩,
  ⟨none, some 11, .convI .i64 (.tmp 10)⟩,
  ⟨none, some 12, .mv (.tmp 3)⟩,
  ⟨none, some 13, .callP [100, 171, 173] (.tmp 12) [(.const (.int .i64 24)), (.const (.int .i64 20))]⟩,
  ⟨none, some 14, .convI .i64 (.tmp 13)⟩,
  ⟨none, some 15, .mv (.tmp 3)⟩,
  ⟨none, some 16, .callP [100, 171, 173] (.tmp 15) [(.const (.int .i64 14)), (.const (.int .i64 12))]⟩,
  ⟨none, some 17, .mv (.tmp 3)⟩,
  ⟨none, some 18, .callP [100, 171, 173] (.tmp 17) [(.const (.int .i64 31)), (.const (.int .i64 25))]⟩,
  ⟨none, some 19, .build [.int .u32 0, .int .i64 0, .int .i64 0, .int .i64 0, .int .u32 0, .int .u32 0] [(0, 1, (.tmp 5)), (1, 1, (.tmp 8)), (2, 1, (.tmp 11)), (3, 1, (.tmp 14)), (4, 1, (.tmp 16)), (5, 1, (.tmp 18))]⟩,
  ⟨none, none, .store 6 (.tmp 2) (.tmp 19)⟩] [])
 .ret))),
 [.cellN 2 6]⟩
theorem c_decode_split : compF P0 pf Go.Proofs.Tryz.f54 = some L_decode_split := by kernel_rfl
/-- undertow/decode.Clean -/
abbrev n_decode_Clean : Nat := 55
def L_decode_Clean : LFn := ⟨34, (.seq (.region [⟨none, some 1, .box (.tmp 0)⟩,
  ⟨none, some 2, .alloc [.int .i64 0, .int .i64 0, .int .i64 0, .int .i64 0, .int .i64 0, .bool false, .bool false, .int .i64 0, .int .i64 0]⟩])
 (.seq (.region [⟨none, some 7, .fad 0 (.tmp 1)⟩,
  ⟨none, some 8, .load1 (.tmp 7)⟩,
  ⟨none, some 9, .build [.int .i64 0, .int .i64 0, .int .i64 0, .int .i64 0, .int .i64 0, .bool false, .bool false, .int .i64 0, .int .i64 0] [(0, 1, (.tmp 8)), (1, 1, (.const (.int .i64 1))), (2, 1, (.const (.int .i64 2))), (3, 1, (.const (.int .i64 3)))]⟩,
  ⟨none, some 3, .alloc [.int .i64 0, .int .i64 0, .int .i64 0, .int .i64 0, .int .i64 0, .bool false, .bool false, .int .i64 0, .int .i64 0]⟩,
  ⟨none, none, .store 9 (.tmp 3) (.tmp 9)⟩])
 (.seq (.seq (.region [⟨none, some 10, .loadN 9 (.tmp 3)⟩,
  ⟨none, some 11, .call (.func 46) [(.tmp 10)]⟩,
  ⟨none, some 12, .bin .eql (.tmp 11) (.const (.int .i64 0))⟩])
 (.cond (.tmp 12) (.region [⟨none, some 13, .fad 1 (.tmp 1)⟩,
  ⟨none, none, .store 1 (.tmp 13) (.const (.int .i64 0))⟩]) .skip))
 (.seq (.region [⟨none, some 14, .build [.bool false, .bool false, .bool false, .bool false] []⟩,
  ⟨none, some 4, .alloc [.bool false, .bool false, .bool false, .bool false]⟩,
  ⟨none, none, .store 4 (.tmp 4) (.tmp 14)⟩])
 (.seq (.seq (.region [⟨none, some 15, .loadN 9 (.tmp 3)⟩,
  ⟨none, some 16, .call (.func 102) [(.tmp 15)]⟩,
  ⟨none, some 17, .lenS (.tmp 16)⟩,
  ⟨none, some 18, .mv (.const (.int .i64 0))⟩])
 (.block 0 (.loop (.seq (.region [⟨none, some 19, .bin .lss (.tmp 18) (.tmp 17)⟩])
 (.seq (.cond (.tmp 19) .skip (.exit 0))
 (.seq (.block 1 (.seq (.region [⟨none, some 20, .iadS 1 (.tmp 16) (.tmp 18)⟩,
  ⟨none, some 21, .load1 (.tmp 20)⟩,
  ⟨none, some 6, .mv (.tmp 21)⟩])
 (.region [⟨none, some 22, .mv (.tmp 6)⟩,
  ⟨none, some 23, .iadA 4 1 (.tmp 4) (.tmp 22)⟩,
  ⟨none, none, .store 1 (.tmp 23) (.const (.bool true))⟩])))
 (.region [⟨none, some 24, .bin .add (.tmp 18) (.const (.int .i64 1))⟩,
  ⟨none, some 18, .mv (.tmp 24)⟩])))))))
 (.seq (.seq (.region [⟨none, some 25, .iadA 4 1 (.tmp 4) (.const (.int .i64 2))⟩,
  ⟨none, some 26, .load1 (.tmp 25)⟩,
  ⟨none, some 27, .un .not (.tmp 26)⟩])
 (.cond (.tmp 27) (.region [⟨none, some 28, .fad 2 (.tmp 1)⟩,
  ⟨none, none, .store 1 (.tmp 28) (.const (.int .i64 0))⟩]) .skip))
 (.seq (.seq (.region [⟨none, some 29, .iadA 4 1 (.tmp 4) (.const (.int .i64 3))⟩,
  ⟨none, some 30, .load1 (.tmp 29)⟩,
  ⟨none, some 31, .un .not (.tmp 30)⟩])
 (.cond (.tmp 31) (.region [⟨none, some 32, .fad 3 (.tmp 1)⟩,
  ⟨none, none, .store 1 (.tmp 32) (.const (.int .i64 0))⟩]) .skip))
 (.seq (.region [⟨none, some 33, .loadN 9 (.tmp 1)⟩,
  ⟨none, none, .store 9 (.tmp 2) (.tmp 33)⟩])
 .ret)))))))),
 [.cellN 2 9]⟩
theorem c_decode_Clean : compF P0 pf Go.Proofs.Tryz.f55 = some L_decode_Clean := by kernel_rfl
/-- undertow/encode.Right -/
abbrev n_encode_Right : Nat := 56
def L_encode_Right : LFn := ⟨94, (.seq (.region [⟨none, some 1, .box (.tmp 0)⟩,
  ⟨none, some 2, .mv (.const (.bool false))⟩])
 (.seq (.region [⟨none, some 9, .loadN 9 (.tmp 1)⟩,
  ⟨none, some 10, .call (.func 57) [(.tmp 9)]⟩,
  ⟨none, some 8, .mv (.tmp 10)⟩,
  ⟨none, some 11, .ext (.tmp 8) 0⟩,
  ⟨none, some 12, .ext (.tmp 8) 1⟩,
  ⟨none, some 3, .mv (.tmp 11)⟩,
  ⟨none, some 4, .mv (.tmp 12)⟩])
 (.seq (.region [⟨none, some 13, .fad 0 (.tmp 1)⟩,
  ⟨none, some 14, .load1 (.tmp 13)⟩,
  ⟨none, some 15, .call (.func 42) [(.tmp 14)]⟩,
  ⟨none, some 5, .mv (.tmp 15)⟩])
 (.seq (.block 0 (.seq (.seq (.region [⟨none, some 17, .mv (.tmp 5)⟩,
  ⟨none, some 18, .bin .eql (.tmp 17) (.const (.int .i64 0))⟩,
  ⟨none, some 16, .mv (.tmp 18)⟩])
 (.cond (.tmp 16) .skip (.seq (.region [⟨none, some 19, .mv (.tmp 4)⟩,
  ⟨none, some 20, .un .not (.tmp 19)⟩,
  ⟨none, some 16, .mv (.tmp 20)⟩])
 (.cond (.tmp 16) .skip (.seq (.region [⟨none, some 21, .loadN 9 (.tmp 1)⟩,
  ⟨none, some 22, .call (.func 55) [(.tmp 21)]⟩,
  ⟨none, some 23, .loadN 9 (.tmp 1)⟩,
  ⟨none, some 24, .eqA [(0, 0), (1, 0), (2, 0), (3, 0), (4, 0), (5, 1), (6, 1), (7, 0), (8, 0)] true (.tmp 22) (.tmp 23)⟩,
  ⟨none, some 16, .mv (.tmp 24)⟩])
 (.cond (.tmp 16) .skip (.region [⟨none, some 25, .fad 5 (.tmp 1)⟩,
  ⟨none, some 26, .load1 (.tmp 25)⟩,
  ⟨none, some 27, .mv (.tmp 26)⟩,
  ⟨some (27, false), some 28, .fad 6 (.tmp 1)⟩,
  ⟨some (27, false), some 29, .load1 (.tmp 28)⟩,
  ⟨none, some 30, .pick (.tmp 27) (.const (.bool true)) (.tmp 29)⟩,
  ⟨none, some 31, .mv (.tmp 30)⟩,
  ⟨some (31, true), some 32, .mv (.tmp 5)⟩,
  ⟨some (31, true), some 33, .bin .lss (.tmp 32) (.const (.int .i64 10))⟩,
  ⟨none, some 34, .pick (.tmp 31) (.tmp 33) (.const (.bool false))⟩,
  ⟨none, some 16, .mv (.tmp 34)⟩])))))))
 (.cond (.tmp 16) (.seq (.region [⟨none, some 2, .mv (.const (.bool false))⟩])
 .ret) (.seq (.region [⟨none, some 36, .fad 0 (.tmp 1)⟩,
  ⟨none, some 37, .load1 (.tmp 36)⟩,
  ⟨none, some 38, .bin .eql (.tmp 37) (.const (.int .i64 50))⟩,
  ⟨none, some 35, .mv (.tmp 38)⟩])
 (.cond (.tmp 35) (.seq (.region [⟨none, some 39, .fad 7 (.tmp 1)⟩,
  ⟨none, some 40, .load1 (.tmp 39)⟩,
  ⟨none, some 41, .bin .geq (.tmp 40) (.const (.int .i64 0))⟩,
  ⟨none, some 42, .mv (.tmp 41)⟩,
  ⟨some (42, true), some 43, .fad 7 (.tmp 1)⟩,
  ⟨some (42, true), some 44, .load1 (.tmp 43)⟩,
  ⟨some (42, true), some 45, .bin .leq (.tmp 44) (.const (.int .i64 15))⟩,
  ⟨none, some 46, .pick (.tmp 42) (.tmp 45) (.const (.bool false))⟩,
  ⟨none, some 47, .mv (.tmp 46)⟩,
  ⟨some (47, true), some 48, .fad 8 (.tmp 1)⟩,
  ⟨some (47, true), some 49, .load1 (.tmp 48)⟩,
  ⟨some (47, true), some 50, .bin .geq (.tmp 49) (.const (.int .i64 0))⟩,
  ⟨none, some 51, .pick (.tmp 47) (.tmp 50) (.const (.bool false))⟩,
  ⟨none, some 52, .mv (.tmp 51)⟩,
  ⟨some (52, true), some 53, .fad 8 (.tmp 1)⟩,
  ⟨some (52, true), some 54, .load1 (.tmp 53)⟩,
  ⟨some (52, true), some 55, .bin .leq (.tmp 54) (.const (.int .i64 15))⟩,
  ⟨none, some 56, .pick (.tmp 52) (.tmp 55) (.const (.bool false))⟩,
  ⟨none, some 2, .mv (.tmp 56)⟩])
 .ret) (.seq (.region [⟨none, some 58, .fad 0 (.tmp 1)⟩,
  ⟨none, some 59, .load1 (.tmp 58)⟩,
  ⟨none, some 60, .bin .eql (.tmp 59) (.const (.int .i64 51))⟩,
  ⟨none, some 57, .mv (.tmp 60)⟩])
 (.cond (.tmp 57) (.seq (.region [⟨none, some 61, .fad 7 (.tmp 1)⟩,
  ⟨none, some 62, .load1 (.tmp 61)⟩,
  ⟨none, some 63, .bin .eql (.tmp 62) (.const (.int .i64 3))⟩,
  ⟨none, some 64, .mv (.tmp 63)⟩,
  ⟨some (64, true), some 65, .fad 8 (.tmp 1)⟩,
  ⟨some (64, true), some 66, .load1 (.tmp 65)⟩,
  ⟨some (64, true), some 67, .bin .eql (.tmp 66) (.const (.int .i64 3))⟩,
  ⟨none, some 68, .pick (.tmp 64) (.tmp 67) (.const (.bool false))⟩,
  ⟨none, some 2, .mv (.tmp 68)⟩])
 .ret) .skip)))))))
 (.seq (.seq (.region [⟨none, some 69, .fad 1 (.tmp 1)⟩,
  ⟨none, some 70, .load1 (.tmp 69)⟩,
  ⟨none, some 71, .fad 2 (.tmp 1)⟩,
  ⟨none, some 72, .load1 (.tmp 71)⟩,
  ⟨none, some 73, .fad 3 (.tmp 1)⟩,
  ⟨none, some 74, .load1 (.tmp 73)⟩,
  ⟨none, some 75, .build [.int .i64 0, .int .i64 0, .int .i64 0] [(0, 1, (.tmp 70)), (1, 1, (.tmp 72)), (2, 1, (.tmp 74))]⟩,
  ⟨none, some 76, .mv (.const (.int .i64 0))⟩])
 (.block 1 (.loop (.seq (.region [⟨none, some 77, .bin .lss (.tmp 76) (.const (.int .i64 3))⟩])
 (.seq (.cond (.tmp 77) .skip (.exit 1))
 (.seq (.block 2 (.seq (.region [⟨none, some 78, .ix1 3 (.tmp 75) (.tmp 76)⟩,
  ⟨none, some 7, .mv (.tmp 78)⟩])
 (.seq (.region [⟨none, some 79, .mv (.tmp 7)⟩,
  ⟨none, some 80, .bin .lss (.tmp 79) (.const (.int .i64 0))⟩,
  ⟨none, some 81, .mv (.tmp 80)⟩,
  ⟨some (81, false), some 82, .mv (.tmp 7)⟩,
  ⟨some (81, false), some 83, .bin .gtr (.tmp 82) (.const (.int .i64 31))⟩,
  ⟨none, some 84, .pick (.tmp 81) (.const (.bool true)) (.tmp 83)⟩])
 (.cond (.tmp 84) (.seq (.region [⟨none, some 2, .mv (.const (.bool false))⟩])
 .ret) .skip))))
 (.region [⟨none, some 85, .bin .add (.tmp 76) (.const (.int .i64 1))⟩,
  ⟨none, some 76, .mv (.tmp 85)⟩])))))))
 (.seq (.region [⟨none, some 86, .fad 7 (.tmp 1)⟩,
  ⟨none, some 87, .load1 (.tmp 86)⟩,
  ⟨none, some 88, .bin .eql (.tmp 87) (.const (.int .i64 0))⟩,
  ⟨none, some 89, .mv (.tmp 88)⟩,
  ⟨some (89, true), some 90, .fad 8 (.tmp 1)⟩,
  ⟨some (89, true), some 91, .load1 (.tmp 90)⟩,
  ⟨some (89, true), some 92, .bin .eql (.tmp 91) (.const (.int .i64 0))⟩,
  ⟨none, some 93, .pick (.tmp 89) (.tmp 92) (.const (.bool false))⟩,
  ⟨none, some 2, .mv (.tmp 93)⟩])
 .ret)))))),
 [.tmp 2]⟩
theorem c_encode_Right : compF P0 pf Go.Proofs.Tryz.f56 = some L_encode_Right := by kernel_rfl
/-- undertow/encode.immediate -/
abbrev n_encode_immediate : Nat := 57
def L_encode_immediate : LFn := ⟨39, (.seq (.region [⟨none, some 1, .box (.tmp 0)⟩,
  ⟨none, some 2, .mv (.const (.int .u32 0))⟩,
  ⟨none, some 3, .mv (.const (.bool false))⟩])
 (.seq (.seq (.region [⟨none, some 6, .fad 0 (.tmp 1)⟩,
  ⟨none, some 7, .load1 (.tmp 6)⟩,
  ⟨none, some 8, .call (.func 103) [(.tmp 7)]⟩,
  ⟨none, some 4, .mv (.tmp 8)⟩])
 (.seq (.region [⟨none, some 9, .mv (.tmp 4)⟩,
  ⟨none, some 10, .bin .gtr (.tmp 9) (.const (.int .i64 0))⟩])
 (.cond (.tmp 10) (.seq (.region [⟨none, some 11, .fad 4 (.tmp 1)⟩,
  ⟨none, some 12, .load1 (.tmp 11)⟩,
  ⟨none, some 13, .convI .u32 (.tmp 12)⟩,
  ⟨none, some 14, .bin .shl (.tmp 13) (.const (.int .u64 20))⟩,
  ⟨none, some 15, .fad 4 (.tmp 1)⟩,
  ⟨none, some 16, .load1 (.tmp 15)⟩,
  ⟨none, some 17, .bin .geq (.tmp 16) (.const (.int .i64 0))⟩,
  ⟨none, some 18, .mv (.tmp 17)⟩,
  ⟨some (18, true), some 19, .fad 4 (.tmp 1)⟩,
  ⟨some (18, true), some 20, .load1 (.tmp 19)⟩,
  ⟨some (18, true), some 21, .mv (.tmp 4)⟩,
  ⟨some (18, true), some 22, .bin .shl (.const (.int .i64 1)) (.tmp 21)⟩,
  ⟨some (18, true), some 23, .bin .lss (.tmp 20) (.tmp 22)⟩,
  ⟨none, some 24, .pick (.tmp 18) (.tmp 23) (.const (.bool false))⟩,
  ⟨none, some 2, .mv (.tmp 14)⟩,
  ⟨none, some 3, .mv (.tmp 24)⟩])
 .ret) .skip)))
 (.seq (.seq (.region [⟨none, some 25, .fad 0 (.tmp 1)⟩,
  ⟨none, some 26, .load1 (.tmp 25)⟩,
  ⟨none, some 27, .call (.func 104) [(.tmp 26)]⟩,
  ⟨none, some 5, .mv (.tmp 27)⟩])
 (.seq (.region [⟨none, some 28, .mv (.tmp 5)⟩,
  ⟨none, some 29, .bin .gtr (.tmp 28) (.const (.int .i64 0))⟩])
 (.cond (.tmp 29) (.seq (.region [⟨none, some 30, .mv (.tmp 5)⟩,
  ⟨none, some 31, .fad 4 (.tmp 1)⟩,
  ⟨none, some 32, .load1 (.tmp 31)⟩,
  ⟨none, some 33, .call (.func 105) [(.tmp 30), (.tmp 32)]⟩,
  ⟨none, some 34, .ext (.tmp 33) 0⟩,
  ⟨none, some 35, .ext (.tmp 33) 1⟩,
  ⟨none, some 2, .mv (.tmp 34)⟩,
  ⟨none, some 3, .mv (.tmp 35)⟩])
 .ret) .skip)))
 (.seq (.region [⟨none, some 36, .fad 4 (.tmp 1)⟩,
  ⟨none, some 37, .load1 (.tmp 36)⟩,
  ⟨none, some 38, .bin .eql (.tmp 37) (.const (.int .i64 0))⟩,
  ⟨none, some 2, .mv (.const (.int .u32 0))⟩,
  ⟨none, some 3, .mv (.tmp 38)⟩])
 .ret)))),
 [.tmp 2, .tmp 3]⟩
theorem c_encode_immediate : compF P0 pf Go.Proofs.Tryz.f57 = some L_encode_immediate := by kernel_rfl
/-- undertow/encode.all -/
abbrev n_encode_all : Nat := 58
def L_encode_all : LFn := ⟨17, (.seq (.region [⟨none, some 2, .mv (.const (.int .u32 0))⟩])
 (.seq (.region [⟨none, some 3, .mv (.const (.int .u32 0))⟩])
 (.seq (.seq (.region [⟨none, some 6, .mv (.tmp 0)⟩,
  ⟨none, some 7, .lenS (.tmp 6)⟩,
  ⟨none, some 8, .mv (.const (.int .i64 0))⟩])
 (.block 0 (.loop (.seq (.region [⟨none, some 9, .bin .lss (.tmp 8) (.tmp 7)⟩])
 (.seq (.cond (.tmp 9) .skip (.exit 0))
 (.seq (.block 1 (.seq (.region [⟨none, some 10, .iadS 1 (.tmp 6) (.tmp 8)⟩,
  ⟨none, some 11, .load1 (.tmp 10)⟩,
  ⟨none, some 5, .mv (.tmp 11)⟩])
 (.region [⟨none, some 12, .mv (.tmp 3)⟩,
  ⟨none, some 13, .mv (.tmp 5)⟩,
  ⟨none, some 14, .bin .or (.tmp 12) (.tmp 13)⟩,
  ⟨none, some 3, .mv (.tmp 14)⟩])))
 (.region [⟨none, some 15, .bin .add (.tmp 8) (.const (.int .i64 1))⟩,
  ⟨none, some 8, .mv (.tmp 15)⟩])))))))
 (.seq (.region [⟨none, some 16, .mv (.tmp 3)⟩,
  ⟨none, some 2, .mv (.tmp 16)⟩])
 .ret)))),
 [.tmp 2]⟩
theorem c_encode_all : compF P0 pf Go.Proofs.Tryz.f58 = some L_encode_all := by kernel_rfl
/-- undertow/decode.Opcode -/
abbrev n_decode_Opcode : Nat := 59
def L_decode_Opcode : LFn := ⟨33, (.seq (.region [⟨none, some 2, .mv (.const (.int .u32 0))⟩])
 (.seq (.seq (.region [⟨none, some 3, .mv (.tmp 0)⟩,
  ⟨none, some 4, .call (.func 42) [(.tmp 3)]⟩])
 (.block 0 (.seq (.region [⟨none, some 6, .bin .eql (.tmp 4) (.const (.int .i64 1))⟩,
  ⟨none, some 5, .mv (.tmp 6)⟩])
 (.cond (.tmp 5) (.seq (.seq (.region [⟨none, some 7, .mv (.tmp 0)⟩,
  ⟨none, some 8, .bin .eql (.tmp 7) (.const (.int .i64 1))⟩])
 (.cond (.tmp 8) (.seq (.region [⟨none, some 2, .mv (.const (.int .u32 55))⟩])
 .ret) .skip))
 (.seq (.region [⟨none, some 2, .mv (.const (.int .u32 23))⟩])
 .ret)) (.seq (.region [⟨none, some 10, .bin .eql (.tmp 4) (.const (.int .i64 2))⟩,
  ⟨none, some 9, .mv (.tmp 10)⟩])
 (.cond (.tmp 9) (.seq (.seq (.region [⟨none, some 11, .mv (.tmp 0)⟩,
  ⟨none, some 12, .bin .eql (.tmp 11) (.const (.int .i64 3))⟩])
 (.cond (.tmp 12) (.seq (.region [⟨none, some 2, .mv (.const (.int .u32 111))⟩])
 .ret) .skip))
 (.seq (.region [⟨none, some 2, .mv (.const (.int .u32 103))⟩])
 .ret)) (.seq (.region [⟨none, some 14, .bin .eql (.tmp 4) (.const (.int .i64 3))⟩,
  ⟨none, some 13, .mv (.tmp 14)⟩])
 (.cond (.tmp 13) (.seq (.region [⟨none, some 2, .mv (.const (.int .u32 99))⟩])
 .ret) (.seq (.region [⟨none, some 16, .bin .eql (.tmp 4) (.const (.int .i64 4))⟩,
  ⟨none, some 15, .mv (.tmp 16)⟩])
 (.cond (.tmp 15) (.seq (.region [⟨none, some 2, .mv (.const (.int .u32 3))⟩])
 .ret) (.seq (.region [⟨none, some 18, .bin .eql (.tmp 4) (.const (.int .i64 5))⟩,
  ⟨none, some 17, .mv (.tmp 18)⟩])
 (.cond (.tmp 17) (.seq (.region [⟨none, some 2, .mv (.const (.int .u32 35))⟩])
 .ret) (.seq (.region [⟨none, some 20, .bin .eql (.tmp 4) (.const (.int .i64 6))⟩,
  ⟨none, some 19, .mv (.tmp 20)⟩])
 (.cond (.tmp 19) (.seq (.seq (.region [⟨none, some 21, .mv (.tmp 0)⟩,
  ⟨none, some 22, .bin .geq (.tmp 21) (.const (.int .i64 31))⟩])
 (.cond (.tmp 22) (.seq (.region [⟨none, some 2, .mv (.const (.int .u32 27))⟩])
 .ret) .skip))
 (.seq (.region [⟨none, some 2, .mv (.const (.int .u32 19))⟩])
 .ret)) (.seq (.region [⟨none, some 24, .bin .eql (.tmp 4) (.const (.int .i64 7))⟩,
  ⟨none, some 23, .mv (.tmp 24)⟩])
 (.cond (.tmp 23) (.seq (.seq (.region [⟨none, some 25, .mv (.tmp 0)⟩,
  ⟨none, some 26, .bin .geq (.tmp 25) (.const (.int .i64 45))⟩])
 (.cond (.tmp 26) (.seq (.region [⟨none, some 2, .mv (.const (.int .u32 59))⟩])
 .ret) .skip))
 (.seq (.region [⟨none, some 2, .mv (.const (.int .u32 51))⟩])
 .ret)) (.seq (.region [⟨none, some 28, .bin .eql (.tmp 4) (.const (.int .i64 8))⟩,
  ⟨none, some 27, .mv (.tmp 28)⟩])
 (.cond (.tmp 27) (.seq (.region [⟨none, some 2, .mv (.const (.int .u32 15))⟩])
 .ret) (.seq (.region [⟨none, some 30, .bin .eql (.tmp 4) (.const (.int .i64 9))⟩,
  ⟨none, some 29, .mv (.tmp 30)⟩])
 (.cond (.tmp 29) (.seq (.region [⟨none, some 2, .mv (.const (.int .u32 115))⟩])
 .ret) (.seq (.region [⟨none, some 32, .bin .eql (.tmp 4) (.const (.int .i64 0))⟩,
  ⟨none, some 31, .mv (.tmp 32)⟩])
 (.cond (.tmp 31) (.seq (.region [⟨none, some 2, .mv (.const (.int .u32 0))⟩])
 .ret) .skip))))))))))))))))))))))
 (.seq (.region [⟨none, some 2, .mv (.const (.int .u32 47))⟩])
 .ret))),
 [.tmp 2]⟩
theorem c_decode_Opcode : compF P0 pf Go.Proofs.Tryz.f59 = some L_decode_Opcode := by kernel_rfl
/-- undertow/encode.f3 -/
abbrev n_encode_f3 : Nat := 60
def L_encode_f3 : LFn := ⟨58, (.seq (.region [⟨none, some 2, .mv (.const (.int .u32 0))⟩])
 (.seq (.seq (.region [⟨none, some 3, .mv (.tmp 0)⟩,
  ⟨none, some 4, .call (.func 42) [(.tmp 3)]⟩])
 (.block 0 (.seq (.region [⟨none, some 6, .bin .eql (.tmp 4) (.const (.int .i64 3))⟩,
  ⟨none, some 5, .mv (.tmp 6)⟩])
 (.cond (.tmp 5) (.seq (.region [⟨none, some 7, .build [.int .u32 0, .int .u32 0, .int .u32 0, .int .u32 0, .int .u32 0, .int .u32 0] [(0, 1, (.const (.int .u32 0))), (1, 1, (.const (.int .u32 1))), (2, 1, (.const (.int .u32 4))), (3, 1, (.const (.int .u32 5))), (4, 1, (.const (.int .u32 6))), (5, 1, (.const (.int .u32 7)))]⟩,
  ⟨none, some 8, .mv (.tmp 0)⟩,
  ⟨none, some 9, .bin .sub (.tmp 8) (.const (.int .i64 5))⟩,
  ⟨none, some 10, .ix1 6 (.tmp 7) (.tmp 9)⟩,
  ⟨none, some 2, .mv (.tmp 10)⟩])
 .ret) (.seq (.region [⟨none, some 12, .bin .eql (.tmp 4) (.const (.int .i64 4))⟩,
  ⟨none, some 11, .mv (.tmp 12)⟩])
 (.cond (.tmp 11) (.seq (.region [⟨none, some 13, .mv (.tmp 0)⟩,
  ⟨none, some 14, .bin .sub (.tmp 13) (.const (.int .i64 11))⟩,
  ⟨none, some 15, .convI .u32 (.tmp 14)⟩,
  ⟨none, some 2, .mv (.tmp 15)⟩])
 .ret) (.seq (.region [⟨none, some 17, .bin .eql (.tmp 4) (.const (.int .i64 5))⟩,
  ⟨none, some 16, .mv (.tmp 17)⟩])
 (.cond (.tmp 16) (.seq (.region [⟨none, some 18, .mv (.tmp 0)⟩,
  ⟨none, some 19, .bin .sub (.tmp 18) (.const (.int .i64 18))⟩,
  ⟨none, some 20, .convI .u32 (.tmp 19)⟩,
  ⟨none, some 2, .mv (.tmp 20)⟩])
 .ret) (.seq (.seq (.region [⟨none, some 22, .bin .eql (.tmp 4) (.const (.int .i64 10))⟩,
  ⟨none, some 21, .mv (.tmp 22)⟩])
 (.cond (.tmp 21) .skip (.seq (.region [⟨none, some 23, .bin .eql (.tmp 4) (.const (.int .i64 11))⟩,
  ⟨none, some 21, .mv (.tmp 23)⟩])
 (.cond (.tmp 21) .skip (.region [⟨none, some 24, .bin .eql (.tmp 4) (.const (.int .i64 12))⟩,
  ⟨none, some 21, .mv (.tmp 24)⟩])))))
 (.cond (.tmp 21) (.seq (.seq (.region [⟨none, some 25, .mv (.tmp 0)⟩,
  ⟨none, some 26, .call (.func 41) [(.tmp 25)]⟩,
  ⟨none, some 27, .bin .eql (.tmp 26) (.const (.int .i64 4))⟩])
 (.cond (.tmp 27) (.seq (.region [⟨none, some 2, .mv (.const (.int .u32 2))⟩])
 .ret) .skip))
 (.seq (.region [⟨none, some 2, .mv (.const (.int .u32 3))⟩])
 .ret)) .skip))))))))))
 (.seq (.seq (.region [⟨none, some 28, .mv (.tmp 0)⟩])
 (.block 1 (.seq (.seq (.region [⟨none, some 30, .bin .eql (.tmp 28) (.const (.int .i64 37))⟩,
  ⟨none, some 29, .mv (.tmp 30)⟩])
 (.cond (.tmp 29) .skip (.seq (.region [⟨none, some 31, .bin .eql (.tmp 28) (.const (.int .i64 28))⟩,
  ⟨none, some 29, .mv (.tmp 31)⟩])
 (.cond (.tmp 29) .skip (.seq (.region [⟨none, some 32, .bin .eql (.tmp 28) (.const (.int .i64 47))⟩,
  ⟨none, some 29, .mv (.tmp 32)⟩])
 (.cond (.tmp 29) .skip (.region [⟨none, some 33, .bin .eql (.tmp 28) (.const (.int .i64 32))⟩,
  ⟨none, some 29, .mv (.tmp 33)⟩])))))))
 (.cond (.tmp 29) (.seq (.region [⟨none, some 2, .mv (.const (.int .u32 1))⟩])
 .ret) (.seq (.seq (.region [⟨none, some 35, .bin .eql (.tmp 28) (.const (.int .i64 38))⟩,
  ⟨none, some 34, .mv (.tmp 35)⟩])
 (.cond (.tmp 34) .skip (.region [⟨none, some 36, .bin .eql (.tmp 28) (.const (.int .i64 23))⟩,
  ⟨none, some 34, .mv (.tmp 36)⟩])))
 (.cond (.tmp 34) (.seq (.region [⟨none, some 2, .mv (.const (.int .u32 2))⟩])
 .ret) (.seq (.seq (.region [⟨none, some 38, .bin .eql (.tmp 28) (.const (.int .i64 39))⟩,
  ⟨none, some 37, .mv (.tmp 38)⟩])
 (.cond (.tmp 37) .skip (.region [⟨none, some 39, .bin .eql (.tmp 28) (.const (.int .i64 24))⟩,
  ⟨none, some 37, .mv (.tmp 39)⟩])))
 (.cond (.tmp 37) (.seq (.region [⟨none, some 2, .mv (.const (.int .u32 3))⟩])
 .ret) (.seq (.seq (.region [⟨none, some 41, .bin .eql (.tmp 28) (.const (.int .i64 40))⟩,
  ⟨none, some 40, .mv (.tmp 41)⟩])
 (.cond (.tmp 40) .skip (.region [⟨none, some 42, .bin .eql (.tmp 28) (.const (.int .i64 25))⟩,
  ⟨none, some 40, .mv (.tmp 42)⟩])))
 (.cond (.tmp 40) (.seq (.region [⟨none, some 2, .mv (.const (.int .u32 4))⟩])
 .ret) (.seq (.seq (.region [⟨none, some 44, .bin .eql (.tmp 28) (.const (.int .i64 41))⟩,
  ⟨none, some 43, .mv (.tmp 44)⟩])
 (.cond (.tmp 43) .skip (.seq (.region [⟨none, some 45, .bin .eql (.tmp 28) (.const (.int .i64 29))⟩,
  ⟨none, some 43, .mv (.tmp 45)⟩])
 (.cond (.tmp 43) .skip (.seq (.region [⟨none, some 46, .bin .eql (.tmp 28) (.const (.int .i64 48))⟩,
  ⟨none, some 43, .mv (.tmp 46)⟩])
 (.cond (.tmp 43) .skip (.seq (.region [⟨none, some 47, .bin .eql (.tmp 28) (.const (.int .i64 33))⟩,
  ⟨none, some 43, .mv (.tmp 47)⟩])
 (.cond (.tmp 43) .skip (.seq (.region [⟨none, some 48, .bin .eql (.tmp 28) (.const (.int .i64 42))⟩,
  ⟨none, some 43, .mv (.tmp 48)⟩])
 (.cond (.tmp 43) .skip (.seq (.region [⟨none, some 49, .bin .eql (.tmp 28) (.const (.int .i64 30))⟩,
  ⟨none, some 43, .mv (.tmp 49)⟩])
 (.cond (.tmp 43) .skip (.seq (.region [⟨none, some 50, .bin .eql (.tmp 28) (.const (.int .i64 49))⟩,
  ⟨none, some 43, .mv (.tmp 50)⟩])
 (.cond (.tmp 43) .skip (.region [⟨none, some 51, .bin .eql (.tmp 28) (.const (.int .i64 34))⟩,
  ⟨none, some 43, .mv (.tmp 51)⟩])))))))))))))))
 (.cond (.tmp 43) (.seq (.region [⟨none, some 2, .mv (.const (.int .u32 5))⟩])
 .ret) (.seq (.seq (.region [⟨none, some 53, .bin .eql (.tmp 28) (.const (.int .i64 43))⟩,
  ⟨none, some 52, .mv (.tmp 53)⟩])
 (.cond (.tmp 52) .skip (.region [⟨none, some 54, .bin .eql (.tmp 28) (.const (.int .i64 26))⟩,
  ⟨none, some 52, .mv (.tmp 54)⟩])))
 (.cond (.tmp 52) (.seq (.region [⟨none, some 2, .mv (.const (.int .u32 6))⟩])
 .ret) (.seq (.seq (.region [⟨none, some 56, .bin .eql (.tmp 28) (.const (.int .i64 44))⟩,
  ⟨none, some 55, .mv (.tmp 56)⟩])
 (.cond (.tmp 55) .skip (.region [⟨none, some 57, .bin .eql (.tmp 28) (.const (.int .i64 27))⟩,
  ⟨none, some 55, .mv (.tmp 57)⟩])))
 (.cond (.tmp 55) (.seq (.region [⟨none, some 2, .mv (.const (.int .u32 7))⟩])
 .ret) .skip))))))))))))))))
 (.seq (.region [⟨none, some 2, .mv (.const (.int .u32 0))⟩])
 .ret)))),
 [.tmp 2]⟩
theorem c_encode_f3 : compF P0 pf Go.Proofs.Tryz.f60 = some L_encode_f3 := by kernel_rfl
/-- undertow/encode.high -/
abbrev n_encode_high : Nat := 61
def L_encode_high : LFn := ⟨31, (.seq (.region [⟨none, some 2, .mv (.const (.int .u32 0))⟩])
 (.seq (.seq (.region [⟨none, some 4, .mv (.tmp 0)⟩,
  ⟨none, some 5, .call (.func 42) [(.tmp 4)]⟩])
 (.block 0 (.seq (.region [⟨none, some 7, .bin .eql (.tmp 5) (.const (.int .i64 10))⟩,
  ⟨none, some 6, .mv (.tmp 7)⟩])
 (.cond (.tmp 6) (.seq (.region [⟨none, some 2, .mv (.const (.int .u32 268435456))⟩])
 .ret) (.seq (.region [⟨none, some 9, .bin .eql (.tmp 5) (.const (.int .i64 11))⟩,
  ⟨none, some 8, .mv (.tmp 9)⟩])
 (.cond (.tmp 8) (.seq (.region [⟨none, some 2, .mv (.const (.int .u32 402653184))⟩])
 .ret) (.seq (.region [⟨none, some 11, .bin .eql (.tmp 5) (.const (.int .i64 12))⟩,
  ⟨none, some 10, .mv (.tmp 11)⟩])
 (.cond (.tmp 10) (.seq (.region [⟨none, some 12, .build [.int .u32 0, .int .u32 0, .int .u32 0, .int .u32 0, .int .u32 0, .int .u32 0, .int .u32 0, .int .u32 0, .int .u32 0] [(0, 1, (.const (.int .u32 1))), (1, 1, (.const (.int .u32 0))), (2, 1, (.const (.int .u32 4))), (3, 1, (.const (.int .u32 12))), (4, 1, (.const (.int .u32 8))), (5, 1, (.const (.int .u32 16))), (6, 1, (.const (.int .u32 20))), (7, 1, (.const (.int .u32 24))), (8, 1, (.const (.int .u32 28)))]⟩,
  ⟨none, some 3, .alloc [.int .u32 0, .int .u32 0, .int .u32 0, .int .u32 0, .int .u32 0, .int .u32 0, .int .u32 0, .int .u32 0, .int .u32 0]⟩,
  ⟨none, none, .store 9 (.tmp 3) (.tmp 12)⟩])
 (.seq (.region [⟨none, some 13, .mv (.tmp 0)⟩,
  ⟨none, some 14, .bin .sub (.tmp 13) (.const (.int .i64 58))⟩,
  ⟨none, some 15, .bin .rem (.tmp 14) (.const (.int .i64 9))⟩,
  ⟨none, some 16, .iadA 9 1 (.tmp 3) (.tmp 15)⟩,
  ⟨none, some 17, .load1 (.tmp 16)⟩,
  ⟨none, some 18, .bin .shl (.tmp 17) (.const (.int .u64 27))⟩,
  ⟨none, some 2, .mv (.tmp 18)⟩])
 .ret)) .skip))))))))
 (.seq (.seq (.region [⟨none, some 19, .mv (.tmp 0)⟩])
 (.block 1 (.seq (.seq (.region [⟨none, some 21, .bin .eql (.tmp 19) (.const (.int .i64 36))⟩,
  ⟨none, some 20, .mv (.tmp 21)⟩])
 (.cond (.tmp 20) .skip (.seq (.region [⟨none, some 22, .bin .eql (.tmp 19) (.const (.int .i64 46))⟩,
  ⟨none, some 20, .mv (.tmp 22)⟩])
 (.cond (.tmp 20) .skip (.seq (.region [⟨none, some 23, .bin .eql (.tmp 19) (.const (.int .i64 42))⟩,
  ⟨none, some 20, .mv (.tmp 23)⟩])
 (.cond (.tmp 20) .skip (.seq (.region [⟨none, some 24, .bin .eql (.tmp 19) (.const (.int .i64 49))⟩,
  ⟨none, some 20, .mv (.tmp 24)⟩])
 (.cond (.tmp 20) .skip (.seq (.region [⟨none, some 25, .bin .eql (.tmp 19) (.const (.int .i64 30))⟩,
  ⟨none, some 20, .mv (.tmp 25)⟩])
 (.cond (.tmp 20) .skip (.region [⟨none, some 26, .bin .eql (.tmp 19) (.const (.int .i64 34))⟩,
  ⟨none, some 20, .mv (.tmp 26)⟩])))))))))))
 (.cond (.tmp 20) (.seq (.region [⟨none, some 2, .mv (.const (.int .u32 1073741824))⟩])
 .ret) (.seq (.region [⟨none, some 28, .bin .eql (.tmp 19) (.const (.int .i64 51))⟩,
  ⟨none, some 27, .mv (.tmp 28)⟩])
 (.cond (.tmp 27) (.seq (.region [⟨none, some 2, .mv (.const (.int .u32 2147483648))⟩])
 .ret) (.seq (.region [⟨none, some 30, .bin .eql (.tmp 19) (.const (.int .i64 53))⟩,
  ⟨none, some 29, .mv (.tmp 30)⟩])
 (.cond (.tmp 29) (.seq (.region [⟨none, some 2, .mv (.const (.int .u32 1048576))⟩])
 .ret) .skip))))))))
 (.seq (.region [⟨none, some 2, .mv (.const (.int .u32 0))⟩])
 .ret)))),
 [.tmp 2]⟩
theorem c_encode_high : compF P0 pf Go.Proofs.Tryz.f61 = some L_encode_high := by kernel_rfl
/-- undertow/encode.bit -/
abbrev n_encode_bit : Nat := 62
def L_encode_bit : LFn := ⟨8, (.seq (.region [⟨none, some 4, .mv (.const (.int .u32 0))⟩])
 (.seq (.seq (.region [⟨none, some 5, .mv (.tmp 0)⟩])
 (.cond (.tmp 5) (.seq (.region [⟨none, some 6, .mv (.tmp 1)⟩,
  ⟨none, some 7, .bin .shl (.const (.int .u32 1)) (.tmp 6)⟩,
  ⟨none, some 4, .mv (.tmp 7)⟩])
 .ret) .skip))
 (.seq (.region [⟨none, some 4, .mv (.const (.int .u32 0))⟩])
 .ret))),
 [.tmp 4]⟩
theorem c_encode_bit : compF P0 pf Go.Proofs.Tryz.f62 = some L_encode_bit := by kernel_rfl
/-- undertow/show.text -/
abbrev n_show_text : Nat := 63
def L_show_text : LFn := ⟨17, (.seq (.region [⟨none, some 1, .box (.tmp 0)⟩,
  ⟨none, some 2, .mv (.const (.string ⟨#[]⟩))⟩])
 (.seq (.region [⟨none, some 4, .loadN 9 (.tmp 1)⟩,
  ⟨none, some 5, .call (.func 106) [(.tmp 4)]⟩,
  ⟨none, some 3, .mv (.tmp 5)⟩])
 (.seq (.seq (.region [⟨none, some 6, .mv (.tmp 3)⟩,
  ⟨none, some 7, .lenS (.tmp 6)⟩,
  ⟨none, some 8, .bin .eql (.tmp 7) (.const (.int .i64 0))⟩])
 (.cond (.tmp 8) (.seq (.region [⟨none, some 9, .loadN 9 (.tmp 1)⟩,
  ⟨none, some 10, .call (.func 107) [(.tmp 9)]⟩,
  ⟨none, some 2, .mv (.tmp 10)⟩])
 .ret) .skip))
 (.seq (.region [⟨none, some 11, .loadN 9 (.tmp 1)⟩,
  ⟨none, some 12, .call (.func 107) [(.tmp 11)]⟩,
  ⟨none, some 13, .bin .add (.tmp 12) (.const (.string ⟨#[32]⟩))⟩,
  ⟨none, some 14, .mv (.tmp 3)⟩,
  ⟨none, some 15, .call (.func 108) [(.tmp 14), (.const (.string ⟨#[44, 32]⟩))]⟩,
  ⟨none, some 16, .bin .add (.tmp 13) (.tmp 15)⟩,
  ⟨none, some 2, .mv (.tmp 16)⟩])
 .ret)))),
 [.tmp 2]⟩
theorem c_show_text : compF P0 pf Go.Proofs.Tryz.f63 = some L_show_text := by kernel_rfl
/-- internal/strconv.FormatUint -/
abbrev n_int_strconv_FormatUint : Nat := 64
def L_int_strconv_FormatUint : LFn := ⟨32, (.seq (.region [⟨none, some 4, .mv (.const (.string ⟨#[]⟩))⟩])
 (.seq (.seq (.region [⟨none, some 9, .mv (.tmp 1)⟩,
  ⟨none, some 10, .bin .eql (.tmp 9) (.const (.int .i64 10))⟩])
 (.cond (.tmp 10) (.seq (.seq (.region [⟨none, some 11, .mv (.tmp 0)⟩,
  ⟨none, some 12, .bin .lss (.tmp 11) (.const (.int .u64 100))⟩])
 (.cond (.tmp 12) (.seq (.region [⟨none, some 13, .mv (.tmp 0)⟩,
  ⟨none, some 14, .convI .i64 (.tmp 13)⟩,
  ⟨none, some 15, .call (.func 109) [(.tmp 14)]⟩,
  ⟨none, some 4, .mv (.tmp 15)⟩])
 .ret) .skip))
 (.seq (.region [⟨none, some 5, .alloc [.int .u8 0, .int .u8 0, .int .u8 0, .int .u8 0, .int .u8 0, .int .u8 0, .int .u8 0, .int .u8 0, .int .u8 0, .int .u8 0, .int .u8 0, .int .u8 0, .int .u8 0, .int .u8 0, .int .u8 0, .int .u8 0, .int .u8 0, .int .u8 0, .int .u8 0, .int .u8 0, .int .u8 0, .int .u8 0, .int .u8 0, .int .u8 0]⟩])
 (.seq (.region [⟨none, some 16, .mv (.tmp 0)⟩,
  ⟨none, some 17, .call (.func 110) [(.tmp 16)]⟩,
  ⟨none, some 6, .mv (.tmp 17)⟩])
 (.seq (.region [⟨none, some 18, .mv (.tmp 6)⟩,
  ⟨none, some 19, .slcA 24 1 (.tmp 5) none (some (.tmp 18))⟩,
  ⟨none, some 20, .mv (.tmp 0)⟩,
  ⟨none, some 21, .call (.func 111) [(.tmp 19), (.tmp 20)]⟩])
 (.seq (.region [⟨none, some 22, .mv (.tmp 6)⟩,
  ⟨none, some 23, .slcA 24 1 (.tmp 5) none (some (.tmp 22))⟩,
  ⟨none, some 24, .b2s (.tmp 23)⟩,
  ⟨none, some 4, .mv (.tmp 24)⟩])
 .ret))))) .skip))
 (.seq (.region [⟨none, some 26, .mv (.tmp 0)⟩,
  ⟨none, some 27, .mv (.tmp 1)⟩,
  ⟨none, some 28, .call (.func 112) [(.const (.slice none 0 0)), (.tmp 26), (.tmp 27), (.const (.bool false)), (.const (.bool false))]⟩,
  ⟨none, some 25, .mv (.tmp 28)⟩,
  ⟨none, some 29, .ext (.tmp 25) 0⟩,
  ⟨none, some 30, .ext (.tmp 25) 1⟩,
  ⟨none, some 7, .mv (.tmp 29)⟩,
  ⟨none, some 8, .mv (.tmp 30)⟩])
 (.seq (.region [⟨none, some 31, .mv (.tmp 8)⟩,
  ⟨none, some 4, .mv (.tmp 31)⟩])
 .ret)))),
 [.tmp 4]⟩
theorem c_int_strconv_FormatUint : compF P0 pf Go.Proofs.Tryz.f64 = some L_int_strconv_FormatUint := by kernel_rfl
/-- undertow/undertowref06.Is -/
abbrev n_ref06_Is : Nat := 66
def L_ref06_Is : LFn := ⟨106, (.seq (.region [⟨none, some 4, .mv (.const (.bool false))⟩])
 (.seq (.region [⟨none, some 10, .mv (.tmp 1)⟩,
  ⟨none, some 11, .call (.func 52) [(.tmp 10)]⟩,
  ⟨none, some 5, .mv (.tmp 11)⟩])
 (.seq (.seq (.region [⟨none, some 12, .mv (.tmp 0)⟩,
  ⟨none, some 13, .bin .rem (.tmp 12) (.const (.int .u32 128))⟩,
  ⟨none, some 14, .mv (.tmp 1)⟩,
  ⟨none, some 15, .call (.func 73) [(.tmp 14)]⟩,
  ⟨none, some 16, .bin .neq (.tmp 13) (.tmp 15)⟩])
 (.cond (.tmp 16) (.seq (.region [⟨none, some 4, .mv (.const (.bool false))⟩])
 .ret) .skip))
 (.seq (.region [⟨none, some 17, .mv (.tmp 0)⟩,
  ⟨none, some 18, .bin .shr (.tmp 17) (.const (.int .u64 12))⟩,
  ⟨none, some 19, .bin .rem (.tmp 18) (.const (.int .u32 8))⟩,
  ⟨none, some 20, .mv (.tmp 0)⟩,
  ⟨none, some 21, .bin .shr (.tmp 20) (.const (.int .u64 25))⟩,
  ⟨none, some 22, .mv (.tmp 0)⟩,
  ⟨none, some 23, .bin .shr (.tmp 22) (.const (.int .u64 20))⟩,
  ⟨none, some 24, .bin .rem (.tmp 23) (.const (.int .u32 32))⟩,
  ⟨none, some 6, .mv (.tmp 19)⟩,
  ⟨none, some 7, .mv (.tmp 21)⟩,
  ⟨none, some 8, .mv (.tmp 24)⟩])
 (.seq (.block 0 (.seq (.region [⟨none, some 26, .mv (.tmp 5)⟩,
  ⟨none, some 27, .bin .eql (.tmp 26) (.const (.int .i64 1))⟩,
  ⟨none, some 28, .mv (.tmp 27)⟩,
  ⟨some (28, false), some 29, .mv (.tmp 1)⟩,
  ⟨some (28, false), some 30, .bin .eql (.tmp 29) (.const (.int .i64 3))⟩,
  ⟨none, some 31, .pick (.tmp 28) (.const (.bool true)) (.tmp 30)⟩,
  ⟨none, some 25, .mv (.tmp 31)⟩])
 (.cond (.tmp 25) (.seq (.region [⟨none, some 4, .mv (.const (.bool true))⟩])
 .ret) (.seq (.region [⟨none, some 33, .mv (.tmp 5)⟩,
  ⟨none, some 34, .bin .eql (.tmp 33) (.const (.int .i64 9))⟩,
  ⟨none, some 32, .mv (.tmp 34)⟩])
 (.cond (.tmp 32) (.seq (.region [⟨none, some 35, .mv (.tmp 0)⟩,
  ⟨none, some 36, .bin .eql (.tmp 35) (.const (.int .u32 115))⟩,
  ⟨none, some 37, .mv (.tmp 36)⟩,
  ⟨some (37, true), some 38, .mv (.tmp 1)⟩,
  ⟨some (37, true), some 39, .bin .eql (.tmp 38) (.const (.int .i64 52))⟩,
  ⟨none, some 40, .pick (.tmp 37) (.tmp 39) (.const (.bool false))⟩,
  ⟨none, some 41, .mv (.tmp 40)⟩,
  ⟨some (41, false), some 42, .mv (.tmp 0)⟩,
  ⟨some (41, false), some 43, .bin .eql (.tmp 42) (.const (.int .u32 1048691))⟩,
  ⟨some (41, false), some 44, .mv (.tmp 43)⟩,
  ⟨some (44, true), some 45, .mv (.tmp 1)⟩,
  ⟨some (44, true), some 46, .bin .eql (.tmp 45) (.const (.int .i64 53))⟩,
  ⟨some (41, false), some 47, .pick (.tmp 44) (.tmp 46) (.const (.bool false))⟩,
  ⟨none, some 48, .pick (.tmp 41) (.const (.bool true)) (.tmp 47)⟩,
  ⟨none, some 4, .mv (.tmp 48)⟩])
 .ret) (.seq (.region [⟨none, some 50, .mv (.tmp 5)⟩,
  ⟨none, some 51, .bin .eql (.tmp 50) (.const (.int .i64 8))⟩,
  ⟨none, some 49, .mv (.tmp 51)⟩])
 (.cond (.tmp 49) (.seq (.region [⟨none, some 52, .mv (.tmp 6)⟩,
  ⟨none, some 53, .bin .eql (.tmp 52) (.const (.int .u32 0))⟩,
  ⟨none, some 54, .mv (.tmp 53)⟩,
  ⟨some (54, true), some 55, .mv (.tmp 0)⟩,
  ⟨some (54, true), some 56, .bin .shr (.tmp 55) (.const (.int .u64 20))⟩,
  ⟨some (54, true), some 57, .bin .eql (.tmp 56) (.const (.int .u32 2099))⟩,
  ⟨some (54, true), some 58, .mv (.tmp 1)⟩,
  ⟨some (54, true), some 59, .bin .eql (.tmp 58) (.const (.int .i64 51))⟩,
  ⟨some (54, true), some 60, .binB .eql (.tmp 57) (.tmp 59)⟩,
  ⟨none, some 61, .pick (.tmp 54) (.tmp 60) (.const (.bool false))⟩,
  ⟨none, some 4, .mv (.tmp 61)⟩])
 .ret) .skip)))))))
 (.seq (.seq (.region [⟨none, some 62, .mv (.tmp 6)⟩,
  ⟨none, some 63, .mv (.tmp 1)⟩,
  ⟨none, some 64, .call (.func 74) [(.tmp 63)]⟩,
  ⟨none, some 65, .bin .neq (.tmp 62) (.tmp 64)⟩])
 (.cond (.tmp 65) (.seq (.region [⟨none, some 4, .mv (.const (.bool false))⟩])
 .ret) .skip))
 (.seq (.region [⟨none, some 9, .mv (.const (.int .u32 0))⟩])
 (.seq (.seq (.region [⟨none, some 66, .mv (.tmp 1)⟩,
  ⟨none, some 67, .call (.func 75) [(.tmp 66)]⟩])
 (.cond (.tmp 67) (.region [⟨none, some 9, .mv (.const (.int .u32 32))⟩]) .skip))
 (.seq (.block 1 (.seq (.region [⟨none, some 69, .mv (.tmp 5)⟩,
  ⟨none, some 70, .bin .eql (.tmp 69) (.const (.int .i64 7))⟩,
  ⟨none, some 71, .mv (.tmp 70)⟩,
  ⟨some (71, false), some 72, .mv (.tmp 1)⟩,
  ⟨some (71, false), some 73, .call (.func 72) [(.tmp 72)]⟩,
  ⟨some (71, false), some 74, .bin .eql (.tmp 73) (.const (.int .i64 5))⟩,
  ⟨none, some 75, .pick (.tmp 71) (.const (.bool true)) (.tmp 74)⟩,
  ⟨none, some 68, .mv (.tmp 75)⟩])
 (.cond (.tmp 68) (.seq (.region [⟨none, some 76, .mv (.tmp 7)⟩,
  ⟨none, some 77, .mv (.tmp 9)⟩,
  ⟨none, some 78, .bin .eql (.tmp 76) (.tmp 77)⟩,
  ⟨none, some 4, .mv (.tmp 78)⟩])
 .ret) (.seq (.region [⟨none, some 80, .mv (.tmp 1)⟩,
  ⟨none, some 81, .call (.func 72) [(.tmp 80)]⟩,
  ⟨none, some 82, .bin .eql (.tmp 81) (.const (.int .i64 6))⟩,
  ⟨none, some 79, .mv (.tmp 82)⟩])
 (.cond (.tmp 79) (.seq (.region [⟨none, some 83, .mv (.tmp 7)⟩,
  ⟨none, some 84, .bin .quo (.tmp 83) (.const (.int .u32 2))⟩,
  ⟨none, some 85, .mv (.tmp 9)⟩,
  ⟨none, some 86, .bin .quo (.tmp 85) (.const (.int .u32 2))⟩,
  ⟨none, some 87, .bin .eql (.tmp 84) (.tmp 86)⟩,
  ⟨none, some 4, .mv (.tmp 87)⟩])
 .ret) (.seq (.region [⟨none, some 89, .mv (.tmp 5)⟩,
  ⟨none, some 90, .bin .eql (.tmp 89) (.const (.int .i64 10))⟩,
  ⟨none, some 88, .mv (.tmp 90)⟩])
 (.cond (.tmp 88) (.seq (.region [⟨none, some 91, .mv (.tmp 0)⟩,
  ⟨none, some 92, .bin .shr (.tmp 91) (.const (.int .u64 27))⟩,
  ⟨none, some 93, .bin .eql (.tmp 92) (.const (.int .u32 2))⟩,
  ⟨none, some 94, .mv (.tmp 93)⟩,
  ⟨some (94, true), some 95, .mv (.tmp 8)⟩,
  ⟨some (94, true), some 96, .bin .eql (.tmp 95) (.const (.int .u32 0))⟩,
  ⟨none, some 97, .pick (.tmp 94) (.tmp 96) (.const (.bool false))⟩,
  ⟨none, some 4, .mv (.tmp 97)⟩])
 .ret) (.seq (.region [⟨none, some 99, .mv (.tmp 5)⟩,
  ⟨none, some 100, .bin .gtr (.tmp 99) (.const (.int .i64 10))⟩,
  ⟨none, some 98, .mv (.tmp 100)⟩])
 (.cond (.tmp 98) (.seq (.region [⟨none, some 101, .mv (.tmp 0)⟩,
  ⟨none, some 102, .bin .shr (.tmp 101) (.const (.int .u64 27))⟩,
  ⟨none, some 103, .mv (.tmp 1)⟩,
  ⟨none, some 104, .call (.func 77) [(.tmp 103)]⟩,
  ⟨none, some 105, .bin .eql (.tmp 102) (.tmp 104)⟩,
  ⟨none, some 4, .mv (.tmp 105)⟩])
 .ret) .skip)))))))))
 (.seq (.region [⟨none, some 4, .mv (.const (.bool true))⟩])
 .ret)))))))))),
 [.tmp 4]⟩
theorem c_ref06_Is : compF P0 pf Go.Proofs.Tryz.f66 = some L_ref06_Is := by kernel_rfl
/-- undertow/undertowref05.Writes -/
abbrev n_ref05_Writes : Nat := 67
def L_ref05_Writes : LFn := ⟨24, (.seq (.region [⟨none, some 2, .mv (.const (.bool false))⟩])
 (.seq (.region [⟨none, some 4, .mv (.tmp 0)⟩,
  ⟨none, some 5, .call (.func 52) [(.tmp 4)]⟩,
  ⟨none, some 3, .mv (.tmp 5)⟩])
 (.seq (.region [⟨none, some 6, .mv (.tmp 3)⟩,
  ⟨none, some 7, .bin .neq (.tmp 6) (.const (.int .i64 0))⟩,
  ⟨none, some 8, .mv (.tmp 7)⟩,
  ⟨some (8, true), some 9, .mv (.tmp 3)⟩,
  ⟨some (8, true), some 10, .bin .neq (.tmp 9) (.const (.int .i64 3))⟩,
  ⟨none, some 11, .pick (.tmp 8) (.tmp 10) (.const (.bool false))⟩,
  ⟨none, some 12, .mv (.tmp 11)⟩,
  ⟨some (12, true), some 13, .mv (.tmp 3)⟩,
  ⟨some (12, true), some 14, .bin .neq (.tmp 13) (.const (.int .i64 5))⟩,
  ⟨none, some 15, .pick (.tmp 12) (.tmp 14) (.const (.bool false))⟩,
  ⟨none, some 16, .mv (.tmp 15)⟩,
  ⟨some (16, true), some 17, .mv (.tmp 3)⟩,
  ⟨some (16, true), some 18, .bin .neq (.tmp 17) (.const (.int .i64 8))⟩,
  ⟨none, some 19, .pick (.tmp 16) (.tmp 18) (.const (.bool false))⟩,
  ⟨none, some 20, .mv (.tmp 19)⟩,
  ⟨some (20, true), some 21, .mv (.tmp 3)⟩,
  ⟨some (20, true), some 22, .bin .neq (.tmp 21) (.const (.int .i64 9))⟩,
  ⟨none, some 23, .pick (.tmp 20) (.tmp 22) (.const (.bool false))⟩,
  ⟨none, some 2, .mv (.tmp 23)⟩])
 .ret))),
 [.tmp 2]⟩
theorem c_ref05_Writes : compF P0 pf Go.Proofs.Tryz.f67 = some L_ref05_Writes := by kernel_rfl
/-- undertow/undertowref05.First -/
abbrev n_ref05_First : Nat := 68
def L_ref05_First : LFn := ⟨21, (.seq (.region [⟨none, some 2, .mv (.const (.bool false))⟩])
 (.seq (.region [⟨none, some 4, .mv (.tmp 0)⟩,
  ⟨none, some 5, .call (.func 52) [(.tmp 4)]⟩,
  ⟨none, some 3, .mv (.tmp 5)⟩])
 (.seq (.region [⟨none, some 6, .mv (.tmp 0)⟩,
  ⟨none, some 7, .call (.func 51) [(.tmp 6)]⟩,
  ⟨none, some 8, .bin .eql (.tmp 7) (.const (.string ⟨#[106, 97, 108, 114]⟩))⟩,
  ⟨none, some 9, .mv (.tmp 8)⟩,
  ⟨some (9, false), some 10, .mv (.tmp 3)⟩,
  ⟨some (9, false), some 11, .bin .geq (.tmp 10) (.const (.int .i64 3))⟩,
  ⟨some (9, false), some 12, .mv (.tmp 11)⟩,
  ⟨some (12, true), some 13, .mv (.tmp 3)⟩,
  ⟨some (12, true), some 14, .bin .leq (.tmp 13) (.const (.int .i64 7))⟩,
  ⟨some (9, false), some 15, .pick (.tmp 12) (.tmp 14) (.const (.bool false))⟩,
  ⟨none, some 16, .pick (.tmp 9) (.const (.bool true)) (.tmp 15)⟩,
  ⟨none, some 17, .mv (.tmp 16)⟩,
  ⟨some (17, false), some 18, .mv (.tmp 3)⟩,
  ⟨some (17, false), some 19, .bin .geq (.tmp 18) (.const (.int .i64 10))⟩,
  ⟨none, some 20, .pick (.tmp 17) (.const (.bool true)) (.tmp 19)⟩,
  ⟨none, some 2, .mv (.tmp 20)⟩])
 .ret))),
 [.tmp 2]⟩
theorem c_ref05_First : compF P0 pf Go.Proofs.Tryz.f68 = some L_ref05_First := by kernel_rfl
/-- undertow/undertowref05.Second -/
abbrev n_ref05_Second : Nat := 69
def L_ref05_Second : LFn := ⟨20, (.seq (.region [⟨none, some 2, .mv (.const (.bool false))⟩])
 (.seq (.region [⟨none, some 4, .mv (.tmp 0)⟩,
  ⟨none, some 5, .call (.func 52) [(.tmp 4)]⟩,
  ⟨none, some 3, .mv (.tmp 5)⟩])
 (.seq (.region [⟨none, some 6, .mv (.tmp 3)⟩,
  ⟨none, some 7, .bin .eql (.tmp 6) (.const (.int .i64 3))⟩,
  ⟨none, some 8, .mv (.tmp 7)⟩,
  ⟨some (8, false), some 9, .mv (.tmp 3)⟩,
  ⟨some (8, false), some 10, .bin .eql (.tmp 9) (.const (.int .i64 5))⟩,
  ⟨none, some 11, .pick (.tmp 8) (.const (.bool true)) (.tmp 10)⟩,
  ⟨none, some 12, .mv (.tmp 11)⟩,
  ⟨some (12, false), some 13, .mv (.tmp 3)⟩,
  ⟨some (12, false), some 14, .bin .eql (.tmp 13) (.const (.int .i64 7))⟩,
  ⟨none, some 15, .pick (.tmp 12) (.const (.bool true)) (.tmp 14)⟩,
  ⟨none, some 16, .mv (.tmp 15)⟩,
  ⟨some (16, false), some 17, .mv (.tmp 3)⟩,
  ⟨some (16, false), some 18, .bin .geq (.tmp 17) (.const (.int .i64 11))⟩,
  ⟨none, some 19, .pick (.tmp 16) (.const (.bool true)) (.tmp 18)⟩,
  ⟨none, some 2, .mv (.tmp 19)⟩])
 .ret))),
 [.tmp 2]⟩
theorem c_ref05_Second : compF P0 pf Go.Proofs.Tryz.f69 = some L_ref05_Second := by kernel_rfl
/-- undertow/undertowref06.Format -/
abbrev n_ref06_Format : Nat := 70
def L_ref06_Format : LFn := ⟨21, (.seq (.region [⟨none, some 2, .mv (.const (.int .i64 0))⟩])
 (.seq (.seq (.region [⟨none, some 3, .mv (.tmp 0)⟩,
  ⟨none, some 4, .call (.func 72) [(.tmp 3)]⟩,
  ⟨none, some 5, .bin .gtr (.tmp 4) (.const (.int .i64 0))⟩])
 (.cond (.tmp 5) (.seq (.region [⟨none, some 2, .mv (.const (.int .i64 0))⟩])
 .ret) .skip))
 (.seq (.seq (.region [⟨none, some 6, .mv (.tmp 0)⟩,
  ⟨none, some 7, .call (.func 52) [(.tmp 6)]⟩])
 (.block 0 (.seq (.region [⟨none, some 9, .bin .eql (.tmp 7) (.const (.int .i64 1))⟩,
  ⟨none, some 8, .mv (.tmp 9)⟩])
 (.cond (.tmp 8) (.seq (.region [⟨none, some 2, .mv (.const (.int .i64 4))⟩])
 .ret) (.seq (.region [⟨none, some 11, .bin .eql (.tmp 7) (.const (.int .i64 2))⟩,
  ⟨none, some 10, .mv (.tmp 11)⟩])
 (.cond (.tmp 10) (.seq (.seq (.region [⟨none, some 12, .mv (.tmp 0)⟩,
  ⟨none, some 13, .bin .eql (.tmp 12) (.const (.int .i64 3))⟩])
 (.cond (.tmp 13) (.seq (.region [⟨none, some 2, .mv (.const (.int .i64 5))⟩])
 .ret) .skip))
 (.seq (.region [⟨none, some 2, .mv (.const (.int .i64 1))⟩])
 .ret)) (.seq (.region [⟨none, some 15, .bin .eql (.tmp 7) (.const (.int .i64 3))⟩,
  ⟨none, some 14, .mv (.tmp 15)⟩])
 (.cond (.tmp 14) (.seq (.region [⟨none, some 2, .mv (.const (.int .i64 3))⟩])
 .ret) (.seq (.seq (.region [⟨none, some 17, .bin .eql (.tmp 7) (.const (.int .i64 4))⟩,
  ⟨none, some 16, .mv (.tmp 17)⟩])
 (.cond (.tmp 16) .skip (.region [⟨none, some 18, .bin .eql (.tmp 7) (.const (.int .i64 6))⟩,
  ⟨none, some 16, .mv (.tmp 18)⟩])))
 (.cond (.tmp 16) (.seq (.region [⟨none, some 2, .mv (.const (.int .i64 1))⟩])
 .ret) (.seq (.region [⟨none, some 20, .bin .eql (.tmp 7) (.const (.int .i64 5))⟩,
  ⟨none, some 19, .mv (.tmp 20)⟩])
 (.cond (.tmp 19) (.seq (.region [⟨none, some 2, .mv (.const (.int .i64 2))⟩])
 .ret) .skip))))))))))))
 (.seq (.region [⟨none, some 2, .mv (.const (.int .i64 0))⟩])
 .ret)))),
 [.tmp 2]⟩
theorem c_ref06_Format : compF P0 pf Go.Proofs.Tryz.f70 = some L_ref06_Format := by kernel_rfl
/-- undertow/undertowref04.Get -/
abbrev n_ref04_Get : Nat := 71
def L_ref04_Get : LFn := ⟨43, (.seq (.region [⟨none, some 4, .mv (.const (.int .i64 0))⟩])
 (.seq (.region [⟨none, some 8, .mv (.tmp 0)⟩,
  ⟨none, some 9, .call (.func 114) [(.tmp 8)]⟩,
  ⟨none, some 5, .alloc [.int .i64 0, .int .i64 0, .int .i64 0, .int .i64 0, .int .i64 0, .int .i64 0, .int .i64 0, .int .i64 0, .int .i64 0, .int .i64 0, .int .i64 0, .int .i64 0, .int .i64 0, .int .i64 0, .int .i64 0, .int .i64 0, .int .i64 0, .int .i64 0, .int .i64 0, .int .i64 0, .int .i64 0, .int .i64 0, .int .i64 0, .int .i64 0, .int .i64 0, .int .i64 0, .int .i64 0, .int .i64 0, .int .i64 0, .int .i64 0, .int .i64 0, .int .i64 0]⟩,
  ⟨none, none, .store 32 (.tmp 5) (.tmp 9)⟩])
 (.seq (.region [⟨none, some 6, .mv (.const (.int .i64 0))⟩])
 (.seq (.seq (.region [⟨none, some 7, .mv (.const (.int .i64 0))⟩])
 (.block 0 (.loop (.seq (.seq (.region [⟨none, some 10, .mv (.tmp 7)⟩,
  ⟨none, some 11, .bin .lss (.tmp 10) (.const (.int .i64 32))⟩])
 (.cond (.tmp 11) .skip (.exit 0)))
 (.seq (.block 1 (.seq (.seq (.region [⟨none, some 14, .mv (.tmp 7)⟩,
  ⟨none, some 15, .iadA 32 1 (.tmp 5) (.tmp 14)⟩,
  ⟨none, some 16, .load1 (.tmp 15)⟩,
  ⟨none, some 17, .bin .lss (.tmp 16) (.const (.int .i64 0))⟩,
  ⟨none, some 18, .mv (.tmp 17)⟩,
  ⟨some (18, false), some 19, .mv (.tmp 1)⟩,
  ⟨some (18, false), some 20, .mv (.tmp 7)⟩,
  ⟨some (18, false), some 21, .convI .u64 (.tmp 20)⟩,
  ⟨some (18, false), some 22, .bin .shr (.tmp 19) (.tmp 21)⟩,
  ⟨some (18, false), some 23, .bin .and (.tmp 22) (.const (.int .u32 1))⟩,
  ⟨some (18, false), some 24, .bin .eql (.tmp 23) (.const (.int .u32 0))⟩,
  ⟨none, some 25, .pick (.tmp 18) (.const (.bool true)) (.tmp 24)⟩])
 (.cond (.tmp 25) (.exit 1) .skip))
 (.seq (.region [⟨none, some 26, .mv (.tmp 7)⟩,
  ⟨none, some 27, .bin .eql (.tmp 26) (.const (.int .i64 31))⟩])
 (.cond (.tmp 27) (.region [⟨none, some 28, .mv (.tmp 6)⟩,
  ⟨none, some 29, .mv (.tmp 7)⟩,
  ⟨none, some 30, .iadA 32 1 (.tmp 5) (.tmp 29)⟩,
  ⟨none, some 31, .load1 (.tmp 30)⟩,
  ⟨none, some 32, .convI .u64 (.tmp 31)⟩,
  ⟨none, some 33, .bin .shl (.const (.int .i64 1)) (.tmp 32)⟩,
  ⟨none, some 34, .bin .sub (.tmp 28) (.tmp 33)⟩,
  ⟨none, some 6, .mv (.tmp 34)⟩]) (.region [⟨none, some 35, .mv (.tmp 6)⟩,
  ⟨none, some 36, .mv (.tmp 7)⟩,
  ⟨none, some 37, .iadA 32 1 (.tmp 5) (.tmp 36)⟩,
  ⟨none, some 38, .load1 (.tmp 37)⟩,
  ⟨none, some 39, .convI .u64 (.tmp 38)⟩,
  ⟨none, some 40, .bin .shl (.const (.int .i64 1)) (.tmp 39)⟩,
  ⟨none, some 41, .bin .add (.tmp 35) (.tmp 40)⟩,
  ⟨none, some 6, .mv (.tmp 41)⟩])))))
 (.region [⟨none, some 12, .mv (.tmp 7)⟩,
  ⟨none, some 13, .bin .add (.tmp 12) (.const (.int .i64 1))⟩,
  ⟨none, some 7, .mv (.tmp 13)⟩]))))))
 (.seq (.region [⟨none, some 42, .mv (.tmp 6)⟩,
  ⟨none, some 4, .mv (.tmp 42)⟩])
 .ret))))),
 [.tmp 4]⟩
theorem c_ref04_Get : compF P0 pf Go.Proofs.Tryz.f71 = some L_ref04_Get := by kernel_rfl
/-- undertow/undertowref06.Shift -/
abbrev n_ref06_Shift : Nat := 72
def L_ref06_Shift : LFn := ⟨26, (.seq (.region [⟨none, some 2, .mv (.const (.int .i64 0))⟩])
 (.seq (.region [⟨none, some 4, .mv (.tmp 0)⟩,
  ⟨none, some 5, .call (.func 51) [(.tmp 4)]⟩,
  ⟨none, some 3, .mv (.tmp 5)⟩])
 (.seq (.seq (.region [⟨none, some 6, .mv (.tmp 3)⟩,
  ⟨none, some 7, .bin .eql (.tmp 6) (.const (.string ⟨#[115, 108, 108, 105]⟩))⟩,
  ⟨none, some 8, .mv (.tmp 7)⟩,
  ⟨some (8, false), some 9, .mv (.tmp 3)⟩,
  ⟨some (8, false), some 10, .bin .eql (.tmp 9) (.const (.string ⟨#[115, 114, 108, 105]⟩))⟩,
  ⟨none, some 11, .pick (.tmp 8) (.const (.bool true)) (.tmp 10)⟩,
  ⟨none, some 12, .mv (.tmp 11)⟩,
  ⟨some (12, false), some 13, .mv (.tmp 3)⟩,
  ⟨some (12, false), some 14, .bin .eql (.tmp 13) (.const (.string ⟨#[115, 114, 97, 105]⟩))⟩,
  ⟨none, some 15, .pick (.tmp 12) (.const (.bool true)) (.tmp 14)⟩])
 (.cond (.tmp 15) (.seq (.region [⟨none, some 2, .mv (.const (.int .i64 6))⟩])
 .ret) .skip))
 (.seq (.seq (.region [⟨none, some 16, .mv (.tmp 3)⟩,
  ⟨none, some 17, .bin .eql (.tmp 16) (.const (.string ⟨#[115, 108, 108, 105, 119]⟩))⟩,
  ⟨none, some 18, .mv (.tmp 17)⟩,
  ⟨some (18, false), some 19, .mv (.tmp 3)⟩,
  ⟨some (18, false), some 20, .bin .eql (.tmp 19) (.const (.string ⟨#[115, 114, 108, 105, 119]⟩))⟩,
  ⟨none, some 21, .pick (.tmp 18) (.const (.bool true)) (.tmp 20)⟩,
  ⟨none, some 22, .mv (.tmp 21)⟩,
  ⟨some (22, false), some 23, .mv (.tmp 3)⟩,
  ⟨some (22, false), some 24, .bin .eql (.tmp 23) (.const (.string ⟨#[115, 114, 97, 105, 119]⟩))⟩,
  ⟨none, some 25, .pick (.tmp 22) (.const (.bool true)) (.tmp 24)⟩])
 (.cond (.tmp 25) (.seq (.region [⟨none, some 2, .mv (.const (.int .i64 5))⟩])
 .ret) .skip))
 (.seq (.region [⟨none, some 2, .mv (.const (.int .i64 0))⟩])
 .ret))))),
 [.tmp 2]⟩
theorem c_ref06_Shift : compF P0 pf Go.Proofs.Tryz.f72 = some L_ref06_Shift := by kernel_rfl
/-- undertow/undertowref06.Opcode -/
abbrev n_ref06_Opcode : Nat := 73
def L_ref06_Opcode : LFn := ⟨63, (.seq (.region [⟨none, some 2, .mv (.const (.int .u32 0))⟩])
 (.seq (.region [⟨none, some 6, .mv (.tmp 0)⟩,
  ⟨none, some 7, .call (.func 51) [(.tmp 6)]⟩,
  ⟨none, some 3, .mv (.tmp 7)⟩])
 (.seq (.region [⟨none, some 8, .mv (.tmp 0)⟩,
  ⟨none, some 9, .call (.func 52) [(.tmp 8)]⟩,
  ⟨none, some 4, .mv (.tmp 9)⟩])
 (.seq (.seq (.region [⟨none, some 10, .mv (.tmp 4)⟩,
  ⟨none, some 11, .bin .eql (.tmp 10) (.const (.int .i64 0))⟩])
 (.cond (.tmp 11) (.seq (.region [⟨none, some 2, .mv (.const (.int .u32 0))⟩])
 .ret) .skip))
 (.seq (.region [⟨none, some 12, .mv (.tmp 3)⟩,
  ⟨none, some 13, .mv (.tmp 3)⟩,
  ⟨none, some 14, .lenT (.tmp 13)⟩,
  ⟨none, some 15, .bin .sub (.tmp 14) (.const (.int .i64 1))⟩,
  ⟨none, some 16, .ixS (.tmp 12) (.tmp 15)⟩,
  ⟨none, some 17, .bin .eql (.tmp 16) (.const (.int .u8 119))⟩,
  ⟨none, some 5, .mv (.tmp 17)⟩])
 (.seq (.block 0 (.seq (.region [⟨none, some 19, .mv (.tmp 3)⟩,
  ⟨none, some 20, .bin .eql (.tmp 19) (.const (.string ⟨#[108, 117, 105]⟩))⟩,
  ⟨none, some 18, .mv (.tmp 20)⟩])
 (.cond (.tmp 18) (.seq (.region [⟨none, some 2, .mv (.const (.int .u32 55))⟩])
 .ret) (.seq (.region [⟨none, some 22, .mv (.tmp 3)⟩,
  ⟨none, some 23, .bin .eql (.tmp 22) (.const (.string ⟨#[97, 117, 105, 112, 99]⟩))⟩,
  ⟨none, some 21, .mv (.tmp 23)⟩])
 (.cond (.tmp 21) (.seq (.region [⟨none, some 2, .mv (.const (.int .u32 23))⟩])
 .ret) (.seq (.region [⟨none, some 25, .mv (.tmp 3)⟩,
  ⟨none, some 26, .bin .eql (.tmp 25) (.const (.string ⟨#[106, 97, 108]⟩))⟩,
  ⟨none, some 24, .mv (.tmp 26)⟩])
 (.cond (.tmp 24) (.seq (.region [⟨none, some 2, .mv (.const (.int .u32 111))⟩])
 .ret) (.seq (.region [⟨none, some 28, .mv (.tmp 3)⟩,
  ⟨none, some 29, .bin .eql (.tmp 28) (.const (.string ⟨#[106, 97, 108, 114]⟩))⟩,
  ⟨none, some 27, .mv (.tmp 29)⟩])
 (.cond (.tmp 27) (.seq (.region [⟨none, some 2, .mv (.const (.int .u32 103))⟩])
 .ret) (.seq (.region [⟨none, some 31, .mv (.tmp 4)⟩,
  ⟨none, some 32, .bin .eql (.tmp 31) (.const (.int .i64 3))⟩,
  ⟨none, some 30, .mv (.tmp 32)⟩])
 (.cond (.tmp 30) (.seq (.region [⟨none, some 2, .mv (.const (.int .u32 99))⟩])
 .ret) (.seq (.region [⟨none, some 34, .mv (.tmp 4)⟩,
  ⟨none, some 35, .bin .eql (.tmp 34) (.const (.int .i64 4))⟩,
  ⟨none, some 33, .mv (.tmp 35)⟩])
 (.cond (.tmp 33) (.seq (.region [⟨none, some 2, .mv (.const (.int .u32 3))⟩])
 .ret) (.seq (.region [⟨none, some 37, .mv (.tmp 4)⟩,
  ⟨none, some 38, .bin .eql (.tmp 37) (.const (.int .i64 5))⟩,
  ⟨none, some 36, .mv (.tmp 38)⟩])
 (.cond (.tmp 36) (.seq (.region [⟨none, some 2, .mv (.const (.int .u32 35))⟩])
 .ret) (.seq (.region [⟨none, some 40, .mv (.tmp 4)⟩,
  ⟨none, some 41, .bin .eql (.tmp 40) (.const (.int .i64 6))⟩,
  ⟨none, some 42, .mv (.tmp 41)⟩,
  ⟨some (42, true), some 43, .mv (.tmp 5)⟩,
  ⟨none, some 44, .pick (.tmp 42) (.tmp 43) (.const (.bool false))⟩,
  ⟨none, some 39, .mv (.tmp 44)⟩])
 (.cond (.tmp 39) (.seq (.region [⟨none, some 2, .mv (.const (.int .u32 27))⟩])
 .ret) (.seq (.region [⟨none, some 46, .mv (.tmp 4)⟩,
  ⟨none, some 47, .bin .eql (.tmp 46) (.const (.int .i64 6))⟩,
  ⟨none, some 45, .mv (.tmp 47)⟩])
 (.cond (.tmp 45) (.seq (.region [⟨none, some 2, .mv (.const (.int .u32 19))⟩])
 .ret) (.seq (.region [⟨none, some 49, .mv (.tmp 4)⟩,
  ⟨none, some 50, .bin .eql (.tmp 49) (.const (.int .i64 7))⟩,
  ⟨none, some 51, .mv (.tmp 50)⟩,
  ⟨some (51, true), some 52, .mv (.tmp 5)⟩,
  ⟨none, some 53, .pick (.tmp 51) (.tmp 52) (.const (.bool false))⟩,
  ⟨none, some 48, .mv (.tmp 53)⟩])
 (.cond (.tmp 48) (.seq (.region [⟨none, some 2, .mv (.const (.int .u32 59))⟩])
 .ret) (.seq (.region [⟨none, some 55, .mv (.tmp 4)⟩,
  ⟨none, some 56, .bin .eql (.tmp 55) (.const (.int .i64 7))⟩,
  ⟨none, some 54, .mv (.tmp 56)⟩])
 (.cond (.tmp 54) (.seq (.region [⟨none, some 2, .mv (.const (.int .u32 51))⟩])
 .ret) (.seq (.region [⟨none, some 58, .mv (.tmp 4)⟩,
  ⟨none, some 59, .bin .eql (.tmp 58) (.const (.int .i64 8))⟩,
  ⟨none, some 57, .mv (.tmp 59)⟩])
 (.cond (.tmp 57) (.seq (.region [⟨none, some 2, .mv (.const (.int .u32 15))⟩])
 .ret) (.seq (.region [⟨none, some 61, .mv (.tmp 4)⟩,
  ⟨none, some 62, .bin .eql (.tmp 61) (.const (.int .i64 9))⟩,
  ⟨none, some 60, .mv (.tmp 62)⟩])
 (.cond (.tmp 60) (.seq (.region [⟨none, some 2, .mv (.const (.int .u32 115))⟩])
 .ret) .skip)))))))))))))))))))))))))))
 (.seq (.region [⟨none, some 2, .mv (.const (.int .u32 47))⟩])
 .ret))))))),
 [.tmp 2]⟩
theorem c_ref06_Opcode : compF P0 pf Go.Proofs.Tryz.f73 = some L_ref06_Opcode := by kernel_rfl
/-- undertow/undertowref06.F3 -/
abbrev n_ref06_F3 : Nat := 74
def L_ref06_F3 : LFn := ⟨73, (.seq (.region [⟨none, some 2, .mv (.const (.int .u32 0))⟩])
 (.seq (.region [⟨none, some 5, .mv (.tmp 0)⟩,
  ⟨none, some 6, .call (.func 52) [(.tmp 5)]⟩,
  ⟨none, some 3, .mv (.tmp 6)⟩])
 (.seq (.region [⟨none, some 7, .mv (.tmp 0)⟩,
  ⟨none, some 8, .call (.func 51) [(.tmp 7)]⟩,
  ⟨none, some 4, .mv (.tmp 8)⟩])
 (.seq (.seq (.region [⟨none, some 9, .mv (.tmp 3)⟩])
 (.block 0 (.seq (.region [⟨none, some 11, .bin .eql (.tmp 9) (.const (.int .i64 3))⟩,
  ⟨none, some 10, .mv (.tmp 11)⟩])
 (.cond (.tmp 10) (.seq (.region [⟨none, some 12, .row 1 6 (zeroRow [.int .u32 0] 6) [(0, 1, (.const (.int .u32 0))), (1, 1, (.const (.int .u32 1))), (2, 1, (.const (.int .u32 4))), (3, 1, (.const (.int .u32 5))), (4, 1, (.const (.int .u32 6))), (5, 1, (.const (.int .u32 7)))]⟩,
  ⟨none, some 13, .mv (.tmp 0)⟩,
  ⟨none, some 14, .bin .sub (.tmp 13) (.const (.int .i64 5))⟩,
  ⟨none, some 15, .iadS 1 (.tmp 12) (.tmp 14)⟩,
  ⟨none, some 16, .load1 (.tmp 15)⟩,
  ⟨none, some 2, .mv (.tmp 16)⟩])
 .ret) (.seq (.region [⟨none, some 18, .bin .eql (.tmp 9) (.const (.int .i64 4))⟩,
  ⟨none, some 17, .mv (.tmp 18)⟩])
 (.cond (.tmp 17) (.seq (.region [⟨none, some 19, .mv (.tmp 0)⟩,
  ⟨none, some 20, .bin .sub (.tmp 19) (.const (.int .i64 11))⟩,
  ⟨none, some 21, .convI .u32 (.tmp 20)⟩,
  ⟨none, some 2, .mv (.tmp 21)⟩])
 .ret) (.seq (.region [⟨none, some 23, .bin .eql (.tmp 9) (.const (.int .i64 5))⟩,
  ⟨none, some 22, .mv (.tmp 23)⟩])
 (.cond (.tmp 22) (.seq (.region [⟨none, some 24, .mv (.tmp 0)⟩,
  ⟨none, some 25, .bin .sub (.tmp 24) (.const (.int .i64 18))⟩,
  ⟨none, some 26, .convI .u32 (.tmp 25)⟩,
  ⟨none, some 2, .mv (.tmp 26)⟩])
 .ret) (.seq (.seq (.region [⟨none, some 28, .bin .eql (.tmp 9) (.const (.int .i64 10))⟩,
  ⟨none, some 27, .mv (.tmp 28)⟩])
 (.cond (.tmp 27) .skip (.seq (.region [⟨none, some 29, .bin .eql (.tmp 9) (.const (.int .i64 11))⟩,
  ⟨none, some 27, .mv (.tmp 29)⟩])
 (.cond (.tmp 27) .skip (.region [⟨none, some 30, .bin .eql (.tmp 9) (.const (.int .i64 12))⟩,
  ⟨none, some 27, .mv (.tmp 30)⟩])))))
 (.cond (.tmp 27) (.seq (.seq (.region [⟨none, some 31, .mv (.tmp 4)⟩,
  ⟨none, some 32, .mv (.tmp 4)⟩,
  ⟨none, some 33, .lenT (.tmp 32)⟩,
  ⟨none, some 34, .bin .sub (.tmp 33) (.const (.int .i64 1))⟩,
  ⟨none, some 35, .ixS (.tmp 31) (.tmp 34)⟩,
  ⟨none, some 36, .bin .eql (.tmp 35) (.const (.int .u8 119))⟩])
 (.cond (.tmp 36) (.seq (.region [⟨none, some 2, .mv (.const (.int .u32 2))⟩])
 .ret) .skip))
 (.seq (.region [⟨none, some 2, .mv (.const (.int .u32 3))⟩])
 .ret)) .skip))))))))))
 (.seq (.seq (.region [⟨none, some 37, .mv (.tmp 3)⟩,
  ⟨none, some 38, .bin .neq (.tmp 37) (.const (.int .i64 6))⟩,
  ⟨none, some 39, .mv (.tmp 38)⟩,
  ⟨some (39, true), some 40, .mv (.tmp 3)⟩,
  ⟨some (39, true), some 41, .bin .neq (.tmp 40) (.const (.int .i64 7))⟩,
  ⟨none, some 42, .pick (.tmp 39) (.tmp 41) (.const (.bool false))⟩])
 (.cond (.tmp 42) (.seq (.region [⟨none, some 2, .mv (.const (.int .u32 0))⟩])
 .ret) .skip))
 (.seq (.seq (.region [⟨none, some 43, .mv (.tmp 4)⟩])
 (.block 1 (.seq (.seq (.region [⟨none, some 45, .bin .eql (.tmp 43) (.const (.string ⟨#[115, 108, 108]⟩))⟩,
  ⟨none, some 44, .mv (.tmp 45)⟩])
 (.cond (.tmp 44) .skip (.seq (.region [⟨none, some 46, .bin .eql (.tmp 43) (.const (.string ⟨#[115, 108, 108, 105]⟩))⟩,
  ⟨none, some 44, .mv (.tmp 46)⟩])
 (.cond (.tmp 44) .skip (.seq (.region [⟨none, some 47, .bin .eql (.tmp 43) (.const (.string ⟨#[115, 108, 108, 119]⟩))⟩,
  ⟨none, some 44, .mv (.tmp 47)⟩])
 (.cond (.tmp 44) .skip (.region [⟨none, some 48, .bin .eql (.tmp 43) (.const (.string ⟨#[115, 108, 108, 105, 119]⟩))⟩,
  ⟨none, some 44, .mv (.tmp 48)⟩])))))))
 (.cond (.tmp 44) (.seq (.region [⟨none, some 2, .mv (.const (.int .u32 1))⟩])
 .ret) (.seq (.seq (.region [⟨none, some 50, .bin .eql (.tmp 43) (.const (.string ⟨#[115, 108, 116]⟩))⟩,
  ⟨none, some 49, .mv (.tmp 50)⟩])
 (.cond (.tmp 49) .skip (.region [⟨none, some 51, .bin .eql (.tmp 43) (.const (.string ⟨#[115, 108, 116, 105]⟩))⟩,
  ⟨none, some 49, .mv (.tmp 51)⟩])))
 (.cond (.tmp 49) (.seq (.region [⟨none, some 2, .mv (.const (.int .u32 2))⟩])
 .ret) (.seq (.seq (.region [⟨none, some 53, .bin .eql (.tmp 43) (.const (.string ⟨#[115, 108, 116, 117]⟩))⟩,
  ⟨none, some 52, .mv (.tmp 53)⟩])
 (.cond (.tmp 52) .skip (.region [⟨none, some 54, .bin .eql (.tmp 43) (.const (.string ⟨#[115, 108, 116, 105, 117]⟩))⟩,
  ⟨none, some 52, .mv (.tmp 54)⟩])))
 (.cond (.tmp 52) (.seq (.region [⟨none, some 2, .mv (.const (.int .u32 3))⟩])
 .ret) (.seq (.seq (.region [⟨none, some 56, .bin .eql (.tmp 43) (.const (.string ⟨#[120, 111, 114]⟩))⟩,
  ⟨none, some 55, .mv (.tmp 56)⟩])
 (.cond (.tmp 55) .skip (.region [⟨none, some 57, .bin .eql (.tmp 43) (.const (.string ⟨#[120, 111, 114, 105]⟩))⟩,
  ⟨none, some 55, .mv (.tmp 57)⟩])))
 (.cond (.tmp 55) (.seq (.region [⟨none, some 2, .mv (.const (.int .u32 4))⟩])
 .ret) (.seq (.seq (.region [⟨none, some 59, .bin .eql (.tmp 43) (.const (.string ⟨#[115, 114, 108]⟩))⟩,
  ⟨none, some 58, .mv (.tmp 59)⟩])
 (.cond (.tmp 58) .skip (.seq (.region [⟨none, some 60, .bin .eql (.tmp 43) (.const (.string ⟨#[115, 114, 108, 105]⟩))⟩,
  ⟨none, some 58, .mv (.tmp 60)⟩])
 (.cond (.tmp 58) .skip (.seq (.region [⟨none, some 61, .bin .eql (.tmp 43) (.const (.string ⟨#[115, 114, 108, 119]⟩))⟩,
  ⟨none, some 58, .mv (.tmp 61)⟩])
 (.cond (.tmp 58) .skip (.seq (.region [⟨none, some 62, .bin .eql (.tmp 43) (.const (.string ⟨#[115, 114, 108, 105, 119]⟩))⟩,
  ⟨none, some 58, .mv (.tmp 62)⟩])
 (.cond (.tmp 58) .skip (.seq (.region [⟨none, some 63, .bin .eql (.tmp 43) (.const (.string ⟨#[115, 114, 97]⟩))⟩,
  ⟨none, some 58, .mv (.tmp 63)⟩])
 (.cond (.tmp 58) .skip (.seq (.region [⟨none, some 64, .bin .eql (.tmp 43) (.const (.string ⟨#[115, 114, 97, 105]⟩))⟩,
  ⟨none, some 58, .mv (.tmp 64)⟩])
 (.cond (.tmp 58) .skip (.seq (.region [⟨none, some 65, .bin .eql (.tmp 43) (.const (.string ⟨#[115, 114, 97, 119]⟩))⟩,
  ⟨none, some 58, .mv (.tmp 65)⟩])
 (.cond (.tmp 58) .skip (.region [⟨none, some 66, .bin .eql (.tmp 43) (.const (.string ⟨#[115, 114, 97, 105, 119]⟩))⟩,
  ⟨none, some 58, .mv (.tmp 66)⟩])))))))))))))))
 (.cond (.tmp 58) (.seq (.region [⟨none, some 2, .mv (.const (.int .u32 5))⟩])
 .ret) (.seq (.seq (.region [⟨none, some 68, .bin .eql (.tmp 43) (.const (.string ⟨#[111, 114]⟩))⟩,
  ⟨none, some 67, .mv (.tmp 68)⟩])
 (.cond (.tmp 67) .skip (.region [⟨none, some 69, .bin .eql (.tmp 43) (.const (.string ⟨#[111, 114, 105]⟩))⟩,
  ⟨none, some 67, .mv (.tmp 69)⟩])))
 (.cond (.tmp 67) (.seq (.region [⟨none, some 2, .mv (.const (.int .u32 6))⟩])
 .ret) (.seq (.seq (.region [⟨none, some 71, .bin .eql (.tmp 43) (.const (.string ⟨#[97, 110, 100]⟩))⟩,
  ⟨none, some 70, .mv (.tmp 71)⟩])
 (.cond (.tmp 70) .skip (.region [⟨none, some 72, .bin .eql (.tmp 43) (.const (.string ⟨#[97, 110, 100, 105]⟩))⟩,
  ⟨none, some 70, .mv (.tmp 72)⟩])))
 (.cond (.tmp 70) (.seq (.region [⟨none, some 2, .mv (.const (.int .u32 7))⟩])
 .ret) .skip))))))))))))))))
 (.seq (.region [⟨none, some 2, .mv (.const (.int .u32 0))⟩])
 .ret))))))),
 [.tmp 2]⟩
theorem c_ref06_F3 : compF P0 pf Go.Proofs.Tryz.f74 = some L_ref06_F3 := by kernel_rfl
/-- undertow/undertowref06.Turned -/
abbrev n_ref06_Turned : Nat := 75
def L_ref06_Turned : LFn := ⟨28, (.seq (.region [⟨none, some 2, .mv (.const (.bool false))⟩])
 (.seq (.region [⟨none, some 4, .mv (.tmp 0)⟩,
  ⟨none, some 5, .call (.func 51) [(.tmp 4)]⟩,
  ⟨none, some 3, .mv (.tmp 5)⟩])
 (.seq (.region [⟨none, some 6, .mv (.tmp 3)⟩,
  ⟨none, some 7, .bin .eql (.tmp 6) (.const (.string ⟨#[115, 117, 98]⟩))⟩,
  ⟨none, some 8, .mv (.tmp 7)⟩,
  ⟨some (8, false), some 9, .mv (.tmp 3)⟩,
  ⟨some (8, false), some 10, .bin .eql (.tmp 9) (.const (.string ⟨#[115, 117, 98, 119]⟩))⟩,
  ⟨none, some 11, .pick (.tmp 8) (.const (.bool true)) (.tmp 10)⟩,
  ⟨none, some 12, .mv (.tmp 11)⟩,
  ⟨some (12, false), some 13, .mv (.tmp 3)⟩,
  ⟨some (12, false), some 14, .bin .eql (.tmp 13) (.const (.string ⟨#[115, 114, 97]⟩))⟩,
  ⟨none, some 15, .pick (.tmp 12) (.const (.bool true)) (.tmp 14)⟩,
  ⟨none, some 16, .mv (.tmp 15)⟩,
  ⟨some (16, false), some 17, .mv (.tmp 3)⟩,
  ⟨some (16, false), some 18, .bin .eql (.tmp 17) (.const (.string ⟨#[115, 114, 97, 105]⟩))⟩,
  ⟨none, some 19, .pick (.tmp 16) (.const (.bool true)) (.tmp 18)⟩,
  ⟨none, some 20, .mv (.tmp 19)⟩,
  ⟨some (20, false), some 21, .mv (.tmp 3)⟩,
  ⟨some (20, false), some 22, .bin .eql (.tmp 21) (.const (.string ⟨#[115, 114, 97, 119]⟩))⟩,
  ⟨none, some 23, .pick (.tmp 20) (.const (.bool true)) (.tmp 22)⟩,
  ⟨none, some 24, .mv (.tmp 23)⟩,
  ⟨some (24, false), some 25, .mv (.tmp 3)⟩,
  ⟨some (24, false), some 26, .bin .eql (.tmp 25) (.const (.string ⟨#[115, 114, 97, 105, 119]⟩))⟩,
  ⟨none, some 27, .pick (.tmp 24) (.const (.bool true)) (.tmp 26)⟩,
  ⟨none, some 2, .mv (.tmp 27)⟩])
 .ret))),
 [.tmp 2]⟩
theorem c_ref06_Turned : compF P0 pf Go.Proofs.Tryz.f75 = some L_ref06_Turned := by kernel_rfl
/-- undertow/undertowref04.Put -/
abbrev n_ref04_Put : Nat := 76
def L_ref04_Put : LFn := ⟨35, (.seq (.region [⟨none, some 4, .mv (.const (.int .u32 0))⟩])
 (.seq (.region [⟨none, some 8, .mv (.tmp 0)⟩,
  ⟨none, some 9, .call (.func 114) [(.tmp 8)]⟩,
  ⟨none, some 5, .alloc [.int .i64 0, .int .i64 0, .int .i64 0, .int .i64 0, .int .i64 0, .int .i64 0, .int .i64 0, .int .i64 0, .int .i64 0, .int .i64 0, .int .i64 0, .int .i64 0, .int .i64 0, .int .i64 0, .int .i64 0, .int .i64 0, .int .i64 0, .int .i64 0, .int .i64 0, .int .i64 0, .int .i64 0, .int .i64 0, .int .i64 0, .int .i64 0, .int .i64 0, .int .i64 0, .int .i64 0, .int .i64 0, .int .i64 0, .int .i64 0, .int .i64 0, .int .i64 0]⟩,
  ⟨none, none, .store 32 (.tmp 5) (.tmp 9)⟩])
 (.seq (.region [⟨none, some 6, .mv (.const (.int .u32 0))⟩])
 (.seq (.seq (.region [⟨none, some 7, .mv (.const (.int .i64 0))⟩])
 (.block 0 (.loop (.seq (.seq (.region [⟨none, some 10, .mv (.tmp 7)⟩,
  ⟨none, some 11, .bin .lss (.tmp 10) (.const (.int .i64 32))⟩])
 (.cond (.tmp 11) .skip (.exit 0)))
 (.seq (.block 1 (.seq (.region [⟨none, some 14, .mv (.tmp 7)⟩,
  ⟨none, some 15, .iadA 32 1 (.tmp 5) (.tmp 14)⟩,
  ⟨none, some 16, .load1 (.tmp 15)⟩,
  ⟨none, some 17, .bin .geq (.tmp 16) (.const (.int .i64 0))⟩,
  ⟨none, some 18, .mv (.tmp 17)⟩,
  ⟨some (18, true), some 19, .mv (.tmp 1)⟩,
  ⟨some (18, true), some 20, .convI .u64 (.tmp 19)⟩,
  ⟨some (18, true), some 21, .mv (.tmp 7)⟩,
  ⟨some (18, true), some 22, .iadA 32 1 (.tmp 5) (.tmp 21)⟩,
  ⟨some (18, true), some 23, .load1 (.tmp 22)⟩,
  ⟨some (18, true), some 24, .convI .u64 (.tmp 23)⟩,
  ⟨some (18, true), some 25, .bin .shr (.tmp 20) (.tmp 24)⟩,
  ⟨some (18, true), some 26, .bin .and (.tmp 25) (.const (.int .u64 1))⟩,
  ⟨some (18, true), some 27, .bin .eql (.tmp 26) (.const (.int .u64 1))⟩,
  ⟨none, some 28, .pick (.tmp 18) (.tmp 27) (.const (.bool false))⟩])
 (.cond (.tmp 28) (.region [⟨none, some 29, .mv (.tmp 6)⟩,
  ⟨none, some 30, .mv (.tmp 7)⟩,
  ⟨none, some 31, .convI .u64 (.tmp 30)⟩,
  ⟨none, some 32, .bin .shl (.const (.int .u32 1)) (.tmp 31)⟩,
  ⟨none, some 33, .bin .add (.tmp 29) (.tmp 32)⟩,
  ⟨none, some 6, .mv (.tmp 33)⟩]) .skip)))
 (.region [⟨none, some 12, .mv (.tmp 7)⟩,
  ⟨none, some 13, .bin .add (.tmp 12) (.const (.int .i64 1))⟩,
  ⟨none, some 7, .mv (.tmp 13)⟩]))))))
 (.seq (.region [⟨none, some 34, .mv (.tmp 6)⟩,
  ⟨none, some 4, .mv (.tmp 34)⟩])
 .ret))))),
 [.tmp 4]⟩
theorem c_ref04_Put : compF P0 pf Go.Proofs.Tryz.f76 = some L_ref04_Put := by kernel_rfl
/-- undertow/undertowref06.Five -/
abbrev n_ref06_Five : Nat := 77
def L_ref06_Five : LFn := ⟨21, (.seq (.region [⟨none, some 2, .mv (.const (.int .u32 0))⟩])
 (.seq (.seq (.region [⟨none, some 3, .mv (.tmp 0)⟩,
  ⟨none, some 4, .bin .eql (.tmp 3) (.const (.int .i64 54))⟩,
  ⟨none, some 5, .mv (.tmp 4)⟩,
  ⟨some (5, false), some 6, .mv (.tmp 0)⟩,
  ⟨some (5, false), some 7, .bin .eql (.tmp 6) (.const (.int .i64 55))⟩,
  ⟨none, some 8, .pick (.tmp 5) (.const (.bool true)) (.tmp 7)⟩])
 (.cond (.tmp 8) (.seq (.region [⟨none, some 2, .mv (.const (.int .u32 2))⟩])
 .ret) .skip))
 (.seq (.seq (.region [⟨none, some 9, .mv (.tmp 0)⟩,
  ⟨none, some 10, .bin .eql (.tmp 9) (.const (.int .i64 56))⟩,
  ⟨none, some 11, .mv (.tmp 10)⟩,
  ⟨some (11, false), some 12, .mv (.tmp 0)⟩,
  ⟨some (11, false), some 13, .bin .eql (.tmp 12) (.const (.int .i64 57))⟩,
  ⟨none, some 14, .pick (.tmp 11) (.const (.bool true)) (.tmp 13)⟩])
 (.cond (.tmp 14) (.seq (.region [⟨none, some 2, .mv (.const (.int .u32 3))⟩])
 .ret) .skip))
 (.seq (.region [⟨none, some 15, .row 1 9 (zeroRow [.int .u32 0] 9) [(0, 1, (.const (.int .u32 1))), (1, 1, (.const (.int .u32 0))), (2, 1, (.const (.int .u32 4))), (3, 1, (.const (.int .u32 12))), (4, 1, (.const (.int .u32 8))), (5, 1, (.const (.int .u32 16))), (6, 1, (.const (.int .u32 20))), (7, 1, (.const (.int .u32 24))), (8, 1, (.const (.int .u32 28)))]⟩,
  ⟨none, some 16, .mv (.tmp 0)⟩,
  ⟨none, some 17, .bin .sub (.tmp 16) (.const (.int .i64 58))⟩,
  ⟨none, some 18, .bin .rem (.tmp 17) (.const (.int .i64 9))⟩,
  ⟨none, some 19, .iadS 1 (.tmp 15) (.tmp 18)⟩,
  ⟨none, some 20, .load1 (.tmp 19)⟩,
  ⟨none, some 2, .mv (.tmp 20)⟩])
 .ret)))),
 [.tmp 2]⟩
theorem c_ref06_Five : compF P0 pf Go.Proofs.Tryz.f77 = some L_ref06_Five := by kernel_rfl
/-- undertow/undertowref09.Set -/
abbrev n_ref09_Set : Nat := 78
def L_ref09_Set : LFn := ⟨30, (.seq (.region [⟨none, some 2, .mv (.const (.string ⟨#[]⟩))⟩])
 (.seq (.region [⟨none, some 3, .mv (.const (.string ⟨#[]⟩))⟩])
 (.seq (.seq (.region [⟨none, some 4, .mv (.tmp 0)⟩,
  ⟨none, some 5, .bin .quo (.tmp 4) (.const (.int .i64 8))⟩,
  ⟨none, some 6, .bin .rem (.tmp 5) (.const (.int .i64 2))⟩,
  ⟨none, some 7, .bin .eql (.tmp 6) (.const (.int .i64 1))⟩])
 (.cond (.tmp 7) (.region [⟨none, some 8, .mv (.tmp 3)⟩,
  ⟨none, some 9, .bin .add (.tmp 8) (.const (.string ⟨#[105]⟩))⟩,
  ⟨none, some 3, .mv (.tmp 9)⟩]) .skip))
 (.seq (.seq (.region [⟨none, some 10, .mv (.tmp 0)⟩,
  ⟨none, some 11, .bin .quo (.tmp 10) (.const (.int .i64 4))⟩,
  ⟨none, some 12, .bin .rem (.tmp 11) (.const (.int .i64 2))⟩,
  ⟨none, some 13, .bin .eql (.tmp 12) (.const (.int .i64 1))⟩])
 (.cond (.tmp 13) (.region [⟨none, some 14, .mv (.tmp 3)⟩,
  ⟨none, some 15, .bin .add (.tmp 14) (.const (.string ⟨#[111]⟩))⟩,
  ⟨none, some 3, .mv (.tmp 15)⟩]) .skip))
 (.seq (.seq (.region [⟨none, some 16, .mv (.tmp 0)⟩,
  ⟨none, some 17, .bin .quo (.tmp 16) (.const (.int .i64 2))⟩,
  ⟨none, some 18, .bin .rem (.tmp 17) (.const (.int .i64 2))⟩,
  ⟨none, some 19, .bin .eql (.tmp 18) (.const (.int .i64 1))⟩])
 (.cond (.tmp 19) (.region [⟨none, some 20, .mv (.tmp 3)⟩,
  ⟨none, some 21, .bin .add (.tmp 20) (.const (.string ⟨#[114]⟩))⟩,
  ⟨none, some 3, .mv (.tmp 21)⟩]) .skip))
 (.seq (.seq (.region [⟨none, some 22, .mv (.tmp 0)⟩,
  ⟨none, some 23, .bin .rem (.tmp 22) (.const (.int .i64 2))⟩,
  ⟨none, some 24, .bin .eql (.tmp 23) (.const (.int .i64 1))⟩])
 (.cond (.tmp 24) (.region [⟨none, some 25, .mv (.tmp 3)⟩,
  ⟨none, some 26, .bin .add (.tmp 25) (.const (.string ⟨#[119]⟩))⟩,
  ⟨none, some 3, .mv (.tmp 26)⟩]) .skip))
 (.seq (.seq (.region [⟨none, some 27, .mv (.tmp 3)⟩,
  ⟨none, some 28, .bin .eql (.tmp 27) (.const (.string ⟨#[]⟩))⟩])
 (.cond (.tmp 28) (.seq (.region [⟨none, some 2, .mv (.const (.string ⟨#[48]⟩))⟩])
 .ret) .skip))
 (.seq (.region [⟨none, some 29, .mv (.tmp 3)⟩,
  ⟨none, some 2, .mv (.tmp 29)⟩])
 .ret)))))))),
 [.tmp 2]⟩
theorem c_ref09_Set : compF P0 pf Go.Proofs.Tryz.f78 = some L_ref09_Set := by kernel_rfl
end Go.Lev.Seat

/- The texts of a seat's functions, the second part; their table. Printed by program. -/
import Derived.Test.YtffclchaoifleaaGreatDoorTx1
set_option linter.unusedVariables false
set_option linter.unusedSimpArgs false
set_option linter.constructorNameAsVariable false

namespace Go.Lev.Seat
open Go Go.Lev
set_option maxRecDepth 100000
/-- strings.SplitSeq -/
abbrev n_strings_SplitSeq : Nat := 79
def L_strings_SplitSeq : LFn := ⟨8, (.seq (.region [⟨none, some 4, .mv (.const (.nilFunc))⟩])
 (.seq (.region [⟨none, some 5, .mv (.tmp 0)⟩,
  ⟨none, some 6, .mv (.tmp 1)⟩,
  ⟨none, some 7, .call (.func 115) [(.tmp 5), (.tmp 6), (.const (.int .i64 0))]⟩,
  ⟨none, some 4, .mv (.tmp 7)⟩])
 .ret)),
 [.tmp 4]⟩
theorem c_strings_SplitSeq : compF P0 pf Go.Proofs.Tryz.f79 = some L_strings_SplitSeq := by kernel_rfl
/-- undertow/asm.read -/
abbrev n_asm_read : Nat := 80
def L_asm_read : LFn := ⟨61, (.seq (.region [⟨none, some 2, .alloc [.string ⟨#[]⟩, .int .i64 0, .slice none 0 0, .int .i64 0, .int .i64 0, .int .i64 0, .int .i64 0, .int .i64 0, .bool false, .bool false, .int .i64 0, .int .i64 0, .string ⟨#[]⟩, .bool false]⟩,
  ⟨none, some 3, .mv (.const (.bool false))⟩])
 (.seq (.region [⟨none, some 12, .mv (.tmp 0)⟩,
  ⟨none, some 13, .call (.func 116) [(.tmp 12), (.const (.string ⟨#[35]⟩))]⟩,
  ⟨none, some 11, .mv (.tmp 13)⟩,
  ⟨none, some 14, .ext (.tmp 11) 0⟩,
  ⟨none, some 15, .ext (.tmp 11) 1⟩,
  ⟨none, some 16, .ext (.tmp 11) 2⟩,
  ⟨none, some 0, .mv (.tmp 14)⟩])
 (.seq (.region [⟨none, some 17, .mv (.tmp 0)⟩,
  ⟨none, some 18, .call (.func 117) [(.tmp 17), (.const (.string ⟨#[32]⟩))]⟩,
  ⟨none, some 0, .mv (.tmp 18)⟩])
 (.seq (.seq (.region [⟨none, some 19, .mv (.tmp 0)⟩,
  ⟨none, some 20, .bin .eql (.tmp 19) (.const (.string ⟨#[]⟩))⟩])
 (.cond (.tmp 20) (.seq (.region [⟨none, some 21, .build [.string ⟨#[]⟩, .int .i64 0, .slice none 0 0, .int .i64 0, .int .i64 0, .int .i64 0, .int .i64 0, .int .i64 0, .bool false, .bool false, .int .i64 0, .int .i64 0, .string ⟨#[]⟩, .bool false] [(1, 1, (.const (.int .i64 (-1))))]⟩,
  ⟨none, none, .store 14 (.tmp 2) (.tmp 21)⟩,
  ⟨none, some 3, .mv (.const (.bool true))⟩])
 .ret) .skip))
 (.seq (.seq (.region [⟨none, some 23, .mv (.tmp 0)⟩,
  ⟨none, some 24, .call (.func 118) [(.tmp 23), (.const (.string ⟨#[58]⟩))]⟩,
  ⟨none, some 22, .mv (.tmp 24)⟩,
  ⟨none, some 25, .ext (.tmp 22) 0⟩,
  ⟨none, some 26, .ext (.tmp 22) 1⟩,
  ⟨none, some 4, .mv (.tmp 25)⟩,
  ⟨none, some 5, .mv (.tmp 26)⟩])
 (.seq (.region [⟨none, some 27, .mv (.tmp 5)⟩])
 (.cond (.tmp 27) (.seq (.region [⟨none, some 28, .mv (.tmp 4)⟩,
  ⟨none, some 29, .build [.string ⟨#[]⟩, .int .i64 0, .slice none 0 0, .int .i64 0, .int .i64 0, .int .i64 0, .int .i64 0, .int .i64 0, .bool false, .bool false, .int .i64 0, .int .i64 0, .string ⟨#[]⟩, .bool false] [(1, 1, (.const (.int .i64 (-1)))), (0, 1, (.tmp 28))]⟩,
  ⟨none, some 30, .mv (.tmp 4)⟩,
  ⟨none, some 31, .call (.func 12) [(.tmp 30)]⟩,
  ⟨none, none, .store 14 (.tmp 2) (.tmp 29)⟩,
  ⟨none, some 3, .mv (.tmp 31)⟩])
 .ret) .skip)))
 (.seq (.seq (.region [⟨none, some 32, .mv (.tmp 0)⟩,
  ⟨none, some 33, .ixS (.tmp 32) (.const (.int .i64 0))⟩,
  ⟨none, some 34, .bin .eql (.tmp 33) (.const (.int .u8 46))⟩])
 (.cond (.tmp 34) (.seq (.region [⟨none, some 36, .mv (.tmp 0)⟩,
  ⟨none, some 37, .call (.func 116) [(.tmp 36), (.const (.string ⟨#[32]⟩))]⟩,
  ⟨none, some 35, .mv (.tmp 37)⟩,
  ⟨none, some 38, .ext (.tmp 35) 0⟩,
  ⟨none, some 39, .ext (.tmp 35) 1⟩,
  ⟨none, some 40, .ext (.tmp 35) 2⟩,
  ⟨none, some 6, .mv (.tmp 38)⟩,
  ⟨none, some 7, .mv (.tmp 39)⟩,
  ⟨none, some 8, .mv (.tmp 40)⟩])
 (.seq (.region [⟨none, some 41, .mv (.tmp 6)⟩,
  ⟨none, some 42, .mv (.tmp 7)⟩,
  ⟨none, some 43, .call (.func 119) [(.tmp 41), (.tmp 42)]⟩,
  ⟨none, some 44, .ext (.tmp 43) 0⟩,
  ⟨none, some 45, .ext (.tmp 43) 1⟩,
  ⟨none, none, .store 14 (.tmp 2) (.tmp 44)⟩,
  ⟨none, some 3, .mv (.tmp 45)⟩])
 .ret)) .skip))
 (.seq (.region [⟨none, some 46, .mv (.tmp 0)⟩,
  ⟨none, some 47, .call (.func 120) [(.tmp 46)]⟩,
  ⟨none, some 0, .mv (.tmp 47)⟩])
 (.seq (.seq (.region [⟨none, some 49, .mv (.tmp 0)⟩,
  ⟨none, some 50, .call (.func 121) [(.tmp 49)]⟩,
  ⟨none, some 48, .mv (.tmp 50)⟩,
  ⟨none, some 51, .ext (.tmp 48) 0⟩,
  ⟨none, some 52, .ext (.tmp 48) 1⟩,
  ⟨none, some 9, .alloc [.int .i64 0, .int .i64 0, .int .i64 0, .int .i64 0, .int .i64 0, .bool false, .bool false, .int .i64 0, .int .i64 0]⟩,
  ⟨none, none, .store 9 (.tmp 9) (.tmp 51)⟩,
  ⟨none, some 10, .mv (.tmp 52)⟩])
 (.seq (.region [⟨none, some 53, .mv (.tmp 10)⟩,
  ⟨none, some 54, .bin .eql (.tmp 53) (.const (.int .i64 0))⟩])
 (.cond (.tmp 54) (.seq (.region [⟨none, some 55, .loadN 9 (.tmp 9)⟩,
  ⟨none, some 56, .build [.string ⟨#[]⟩, .int .i64 0, .slice none 0 0, .int .i64 0, .int .i64 0, .int .i64 0, .int .i64 0, .int .i64 0, .bool false, .bool false, .int .i64 0, .int .i64 0, .string ⟨#[]⟩, .bool false] [(1, 1, (.const (.int .i64 (-1)))), (3, 9, (.tmp 55)), (13, 1, (.const (.bool true)))]⟩,
  ⟨none, none, .store 14 (.tmp 2) (.tmp 56)⟩,
  ⟨none, some 3, .mv (.const (.bool true))⟩])
 .ret) .skip)))
 (.seq (.region [⟨none, some 57, .mv (.tmp 0)⟩,
  ⟨none, some 58, .call (.func 122) [(.tmp 57)]⟩,
  ⟨none, some 59, .ext (.tmp 58) 0⟩,
  ⟨none, some 60, .ext (.tmp 58) 1⟩,
  ⟨none, none, .store 14 (.tmp 2) (.tmp 59)⟩,
  ⟨none, some 3, .mv (.tmp 60)⟩])
 .ret))))))))),
 [.cellN 2 14, .tmp 3]⟩
theorem c_asm_read : compF P0 pf Go.Proofs.Tryz.f80 = some L_asm_read := by kernel_rfl
/-- (undertow/asm.line).space -/
abbrev n_asm_line_space : Nat := 81
def L_asm_line_space : LFn := ⟨8, (.seq (.region [⟨none, some 1, .box (.tmp 0)⟩,
  ⟨none, some 2, .mv (.const (.int .i64 0))⟩])
 (.seq (.seq (.region [⟨none, some 3, .fad 13 (.tmp 1)⟩,
  ⟨none, some 4, .load1 (.tmp 3)⟩])
 (.cond (.tmp 4) (.seq (.region [⟨none, some 2, .mv (.const (.int .i64 4))⟩])
 .ret) .skip))
 (.seq (.region [⟨none, some 5, .fad 2 (.tmp 1)⟩,
  ⟨none, some 6, .load1 (.tmp 5)⟩,
  ⟨none, some 7, .lenS (.tmp 6)⟩,
  ⟨none, some 2, .mv (.tmp 7)⟩])
 .ret))),
 [.tmp 2]⟩
theorem c_asm_line_space : compF P0 pf Go.Proofs.Tryz.f81 = some L_asm_line_space := by kernel_rfl
/-- undertow/ops.Memory -/
abbrev n_ops_Memory : Nat := 82
def L_ops_Memory : LFn := ⟨6, (.seq (.region [⟨none, some 2, .mv (.const (.bool false))⟩])
 (.seq (.region [⟨none, some 3, .mv (.tmp 0)⟩,
  ⟨none, some 4, .call (.func 41) [(.tmp 3)]⟩,
  ⟨none, some 5, .bin .gtr (.tmp 4) (.const (.int .i64 0))⟩,
  ⟨none, some 2, .mv (.tmp 5)⟩])
 .ret)),
 [.tmp 2]⟩
theorem c_ops_Memory : compF P0 pf Go.Proofs.Tryz.f82 = some L_ops_Memory := by kernel_rfl
/-- undertow/alu.Address -/
abbrev n_alu_Address : Nat := 83
def L_alu_Address : LFn := ⟨21, (.seq (.region [⟨none, some 2, .box (.tmp 0)⟩,
  ⟨none, some 4, .mv (.const (.int .u64 0))⟩])
 (.seq (.seq (.region [⟨none, some 5, .fad 0 (.tmp 2)⟩,
  ⟨none, some 6, .load1 (.tmp 5)⟩,
  ⟨none, some 7, .call (.func 42) [(.tmp 6)]⟩])
 (.block 0 (.seq (.seq (.region [⟨none, some 9, .bin .eql (.tmp 7) (.const (.int .i64 4))⟩,
  ⟨none, some 8, .mv (.tmp 9)⟩])
 (.cond (.tmp 8) .skip (.region [⟨none, some 10, .bin .eql (.tmp 7) (.const (.int .i64 5))⟩,
  ⟨none, some 8, .mv (.tmp 10)⟩])))
 (.cond (.tmp 8) (.seq (.region [⟨none, some 11, .mv (.tmp 1)⟩,
  ⟨none, some 12, .fad 4 (.tmp 2)⟩,
  ⟨none, some 13, .load1 (.tmp 12)⟩,
  ⟨none, some 14, .convI .u64 (.tmp 13)⟩,
  ⟨none, some 15, .bin .add (.tmp 11) (.tmp 14)⟩,
  ⟨none, some 4, .mv (.tmp 15)⟩])
 .ret) (.seq (.seq (.region [⟨none, some 17, .bin .eql (.tmp 7) (.const (.int .i64 10))⟩,
  ⟨none, some 16, .mv (.tmp 17)⟩])
 (.cond (.tmp 16) .skip (.seq (.region [⟨none, some 18, .bin .eql (.tmp 7) (.const (.int .i64 11))⟩,
  ⟨none, some 16, .mv (.tmp 18)⟩])
 (.cond (.tmp 16) .skip (.region [⟨none, some 19, .bin .eql (.tmp 7) (.const (.int .i64 12))⟩,
  ⟨none, some 16, .mv (.tmp 19)⟩])))))
 (.cond (.tmp 16) (.seq (.region [⟨none, some 20, .mv (.tmp 1)⟩,
  ⟨none, some 4, .mv (.tmp 20)⟩])
 .ret) .skip))))))
 (.seq (.region [⟨none, some 4, .mv (.const (.int .u64 0))⟩])
 .ret))),
 [.tmp 4]⟩
theorem c_alu_Address : compF P0 pf Go.Proofs.Tryz.f83 = some L_alu_Address := by kernel_rfl
/-- undertow/alu.Where -/
abbrev n_alu_Where : Nat := 84
def L_alu_Where : LFn := ⟨32, (.seq (.region [⟨none, some 6, .mv (.const (.int .i64 0))⟩])
 (.seq (.region [⟨none, some 8, .mv (.tmp 0)⟩,
  ⟨none, some 9, .call (.func 41) [(.tmp 8)]⟩,
  ⟨none, some 10, .convI .u64 (.tmp 9)⟩,
  ⟨none, some 7, .mv (.tmp 10)⟩])
 (.seq (.block 0 (.seq (.region [⟨none, some 12, .mv (.tmp 7)⟩,
  ⟨none, some 13, .bin .eql (.tmp 12) (.const (.int .u64 0))⟩,
  ⟨none, some 11, .mv (.tmp 13)⟩])
 (.cond (.tmp 11) (.seq (.region [⟨none, some 6, .mv (.const (.int .i64 0))⟩])
 .ret) (.seq (.region [⟨none, some 15, .mv (.tmp 1)⟩,
  ⟨none, some 16, .mv (.tmp 7)⟩,
  ⟨none, some 17, .bin .rem (.tmp 15) (.tmp 16)⟩,
  ⟨none, some 18, .bin .neq (.tmp 17) (.const (.int .u64 0))⟩,
  ⟨none, some 14, .mv (.tmp 18)⟩])
 (.cond (.tmp 14) (.seq (.region [⟨none, some 6, .mv (.const (.int .i64 4))⟩])
 .ret) (.seq (.region [⟨none, some 20, .mv (.tmp 2)⟩,
  ⟨none, some 21, .mv (.tmp 7)⟩,
  ⟨none, some 22, .convI .i64 (.tmp 21)⟩,
  ⟨none, some 23, .bin .lss (.tmp 20) (.tmp 22)⟩,
  ⟨none, some 24, .mv (.tmp 23)⟩,
  ⟨some (24, false), some 25, .mv (.tmp 1)⟩,
  ⟨some (24, false), some 26, .mv (.tmp 2)⟩,
  ⟨some (24, false), some 27, .convI .u64 (.tmp 26)⟩,
  ⟨some (24, false), some 28, .mv (.tmp 7)⟩,
  ⟨some (24, false), some 29, .bin .sub (.tmp 27) (.tmp 28)⟩,
  ⟨some (24, false), some 30, .bin .gtr (.tmp 25) (.tmp 29)⟩,
  ⟨none, some 31, .pick (.tmp 24) (.const (.bool true)) (.tmp 30)⟩,
  ⟨none, some 19, .mv (.tmp 31)⟩])
 (.cond (.tmp 19) (.seq (.region [⟨none, some 6, .mv (.const (.int .i64 3))⟩])
 .ret) .skip)))))))
 (.seq (.region [⟨none, some 6, .mv (.const (.int .i64 0))⟩])
 .ret)))),
 [.tmp 6]⟩
theorem c_alu_Where : compF P0 pf Go.Proofs.Tryz.f84 = some L_alu_Where := by kernel_rfl
/-- undertow/alu.atomic -/
abbrev n_alu_atomic : Nat := 85
def L_alu_atomic : LFn := ⟨67, (.seq (.region [⟨none, some 8, .mv (.const (.int .u64 0))⟩])
 (.seq (.region [⟨none, some 11, .mv (.tmp 1)⟩,
  ⟨none, some 12, .mv (.tmp 3)⟩,
  ⟨none, some 13, .call (.func 40) [(.tmp 11), (.tmp 12)]⟩,
  ⟨none, some 14, .mv (.tmp 2)⟩,
  ⟨none, some 15, .mv (.tmp 3)⟩,
  ⟨none, some 16, .call (.func 40) [(.tmp 14), (.tmp 15)]⟩,
  ⟨none, some 9, .mv (.tmp 13)⟩,
  ⟨none, some 10, .mv (.tmp 16)⟩])
 (.seq (.seq (.region [⟨none, some 17, .mv (.tmp 0)⟩,
  ⟨none, some 18, .bin .sub (.tmp 17) (.const (.int .i64 58))⟩,
  ⟨none, some 19, .bin .rem (.tmp 18) (.const (.int .i64 9))⟩])
 (.block 0 (.seq (.region [⟨none, some 21, .bin .eql (.tmp 19) (.const (.int .i64 0))⟩,
  ⟨none, some 20, .mv (.tmp 21)⟩])
 (.cond (.tmp 20) (.seq (.region [⟨none, some 22, .mv (.tmp 2)⟩,
  ⟨none, some 8, .mv (.tmp 22)⟩])
 .ret) (.seq (.region [⟨none, some 24, .bin .eql (.tmp 19) (.const (.int .i64 1))⟩,
  ⟨none, some 23, .mv (.tmp 24)⟩])
 (.cond (.tmp 23) (.seq (.region [⟨none, some 25, .mv (.tmp 1)⟩,
  ⟨none, some 26, .mv (.tmp 2)⟩,
  ⟨none, some 27, .bin .add (.tmp 25) (.tmp 26)⟩,
  ⟨none, some 8, .mv (.tmp 27)⟩])
 .ret) (.seq (.region [⟨none, some 29, .bin .eql (.tmp 19) (.const (.int .i64 2))⟩,
  ⟨none, some 28, .mv (.tmp 29)⟩])
 (.cond (.tmp 28) (.seq (.region [⟨none, some 30, .mv (.tmp 1)⟩,
  ⟨none, some 31, .mv (.tmp 2)⟩,
  ⟨none, some 32, .bin .xor (.tmp 30) (.tmp 31)⟩,
  ⟨none, some 8, .mv (.tmp 32)⟩])
 .ret) (.seq (.region [⟨none, some 34, .bin .eql (.tmp 19) (.const (.int .i64 3))⟩,
  ⟨none, some 33, .mv (.tmp 34)⟩])
 (.cond (.tmp 33) (.seq (.region [⟨none, some 35, .mv (.tmp 1)⟩,
  ⟨none, some 36, .mv (.tmp 2)⟩,
  ⟨none, some 37, .bin .and (.tmp 35) (.tmp 36)⟩,
  ⟨none, some 8, .mv (.tmp 37)⟩])
 .ret) (.seq (.region [⟨none, some 39, .bin .eql (.tmp 19) (.const (.int .i64 4))⟩,
  ⟨none, some 38, .mv (.tmp 39)⟩])
 (.cond (.tmp 38) (.seq (.region [⟨none, some 40, .mv (.tmp 1)⟩,
  ⟨none, some 41, .mv (.tmp 2)⟩,
  ⟨none, some 42, .bin .or (.tmp 40) (.tmp 41)⟩,
  ⟨none, some 8, .mv (.tmp 42)⟩])
 .ret) (.seq (.region [⟨none, some 44, .bin .eql (.tmp 19) (.const (.int .i64 5))⟩,
  ⟨none, some 43, .mv (.tmp 44)⟩])
 (.cond (.tmp 43) (.seq (.region [⟨none, some 45, .mv (.tmp 1)⟩,
  ⟨none, some 46, .convI .i64 (.tmp 45)⟩,
  ⟨none, some 47, .mv (.tmp 2)⟩,
  ⟨none, some 48, .convI .i64 (.tmp 47)⟩,
  ⟨none, some 49, .mn (.tmp 46) (.tmp 48)⟩,
  ⟨none, some 50, .convI .u64 (.tmp 49)⟩,
  ⟨none, some 8, .mv (.tmp 50)⟩])
 .ret) (.seq (.region [⟨none, some 52, .bin .eql (.tmp 19) (.const (.int .i64 6))⟩,
  ⟨none, some 51, .mv (.tmp 52)⟩])
 (.cond (.tmp 51) (.seq (.region [⟨none, some 53, .mv (.tmp 1)⟩,
  ⟨none, some 54, .convI .i64 (.tmp 53)⟩,
  ⟨none, some 55, .mv (.tmp 2)⟩,
  ⟨none, some 56, .convI .i64 (.tmp 55)⟩,
  ⟨none, some 57, .mx (.tmp 54) (.tmp 56)⟩,
  ⟨none, some 58, .convI .u64 (.tmp 57)⟩,
  ⟨none, some 8, .mv (.tmp 58)⟩])
 .ret) (.seq (.region [⟨none, some 60, .bin .eql (.tmp 19) (.const (.int .i64 7))⟩,
  ⟨none, some 59, .mv (.tmp 60)⟩])
 (.cond (.tmp 59) (.seq (.region [⟨none, some 61, .mv (.tmp 9)⟩,
  ⟨none, some 62, .mv (.tmp 10)⟩,
  ⟨none, some 63, .mn (.tmp 61) (.tmp 62)⟩,
  ⟨none, some 8, .mv (.tmp 63)⟩])
 .ret) .skip))))))))))))))))))
 (.seq (.region [⟨none, some 64, .mv (.tmp 9)⟩,
  ⟨none, some 65, .mv (.tmp 10)⟩,
  ⟨none, some 66, .mx (.tmp 64) (.tmp 65)⟩,
  ⟨none, some 8, .mv (.tmp 66)⟩])
 .ret)))),
 [.tmp 8]⟩
theorem c_alu_atomic : compF P0 pf Go.Proofs.Tryz.f85 = some L_alu_atomic := by kernel_rfl
/-- undertow/word.Sext -/
abbrev n_word_Sext : Nat := 86
def L_word_Sext : LFn := ⟨23, (.seq (.region [⟨none, some 4, .mv (.const (.int .u64 0))⟩])
 (.seq (.seq (.region [⟨none, some 5, .mv (.tmp 1)⟩,
  ⟨none, some 6, .bin .lss (.tmp 5) (.const (.int .i64 1))⟩,
  ⟨none, some 7, .mv (.tmp 6)⟩,
  ⟨some (7, false), some 8, .mv (.tmp 1)⟩,
  ⟨some (7, false), some 9, .bin .geq (.tmp 8) (.const (.int .i64 64))⟩,
  ⟨none, some 10, .pick (.tmp 7) (.const (.bool true)) (.tmp 9)⟩])
 (.cond (.tmp 10) (.seq (.region [⟨none, some 11, .mv (.tmp 0)⟩,
  ⟨none, some 12, .mv (.tmp 1)⟩,
  ⟨none, some 13, .call (.func 40) [(.tmp 11), (.tmp 12)]⟩,
  ⟨none, some 4, .mv (.tmp 13)⟩])
 .ret) .skip))
 (.seq (.region [⟨none, some 14, .mv (.tmp 0)⟩,
  ⟨none, some 15, .mv (.tmp 1)⟩,
  ⟨none, some 16, .bin .sub (.const (.int .i64 64)) (.tmp 15)⟩,
  ⟨none, some 17, .bin .shl (.tmp 14) (.tmp 16)⟩,
  ⟨none, some 18, .convI .i64 (.tmp 17)⟩,
  ⟨none, some 19, .mv (.tmp 1)⟩,
  ⟨none, some 20, .bin .sub (.const (.int .i64 64)) (.tmp 19)⟩,
  ⟨none, some 21, .bin .shr (.tmp 18) (.tmp 20)⟩,
  ⟨none, some 22, .convI .u64 (.tmp 21)⟩,
  ⟨none, some 4, .mv (.tmp 22)⟩])
 .ret))),
 [.tmp 4]⟩
theorem c_word_Sext : compF P0 pf Go.Proofs.Tryz.f86 = some L_word_Sext := by kernel_rfl
/-- undertow/alu.Taken -/
abbrev n_alu_Taken : Nat := 87
def L_alu_Taken : LFn := ⟨43, (.seq (.region [⟨none, some 3, .box (.tmp 0)⟩,
  ⟨none, some 6, .mv (.const (.bool false))⟩])
 (.seq (.seq (.region [⟨none, some 7, .fad 0 (.tmp 3)⟩,
  ⟨none, some 8, .load1 (.tmp 7)⟩])
 (.block 0 (.seq (.region [⟨none, some 10, .bin .eql (.tmp 8) (.const (.int .i64 5))⟩,
  ⟨none, some 9, .mv (.tmp 10)⟩])
 (.cond (.tmp 9) (.seq (.region [⟨none, some 11, .mv (.tmp 1)⟩,
  ⟨none, some 12, .mv (.tmp 2)⟩,
  ⟨none, some 13, .bin .eql (.tmp 11) (.tmp 12)⟩,
  ⟨none, some 6, .mv (.tmp 13)⟩])
 .ret) (.seq (.region [⟨none, some 15, .bin .eql (.tmp 8) (.const (.int .i64 6))⟩,
  ⟨none, some 14, .mv (.tmp 15)⟩])
 (.cond (.tmp 14) (.seq (.region [⟨none, some 16, .mv (.tmp 1)⟩,
  ⟨none, some 17, .mv (.tmp 2)⟩,
  ⟨none, some 18, .bin .neq (.tmp 16) (.tmp 17)⟩,
  ⟨none, some 6, .mv (.tmp 18)⟩])
 .ret) (.seq (.region [⟨none, some 20, .bin .eql (.tmp 8) (.const (.int .i64 7))⟩,
  ⟨none, some 19, .mv (.tmp 20)⟩])
 (.cond (.tmp 19) (.seq (.region [⟨none, some 21, .mv (.tmp 1)⟩,
  ⟨none, some 22, .convI .i64 (.tmp 21)⟩,
  ⟨none, some 23, .mv (.tmp 2)⟩,
  ⟨none, some 24, .convI .i64 (.tmp 23)⟩,
  ⟨none, some 25, .bin .lss (.tmp 22) (.tmp 24)⟩,
  ⟨none, some 6, .mv (.tmp 25)⟩])
 .ret) (.seq (.region [⟨none, some 27, .bin .eql (.tmp 8) (.const (.int .i64 8))⟩,
  ⟨none, some 26, .mv (.tmp 27)⟩])
 (.cond (.tmp 26) (.seq (.region [⟨none, some 28, .mv (.tmp 1)⟩,
  ⟨none, some 29, .convI .i64 (.tmp 28)⟩,
  ⟨none, some 30, .mv (.tmp 2)⟩,
  ⟨none, some 31, .convI .i64 (.tmp 30)⟩,
  ⟨none, some 32, .bin .geq (.tmp 29) (.tmp 31)⟩,
  ⟨none, some 6, .mv (.tmp 32)⟩])
 .ret) (.seq (.region [⟨none, some 34, .bin .eql (.tmp 8) (.const (.int .i64 9))⟩,
  ⟨none, some 33, .mv (.tmp 34)⟩])
 (.cond (.tmp 33) (.seq (.region [⟨none, some 35, .mv (.tmp 1)⟩,
  ⟨none, some 36, .mv (.tmp 2)⟩,
  ⟨none, some 37, .bin .lss (.tmp 35) (.tmp 36)⟩,
  ⟨none, some 6, .mv (.tmp 37)⟩])
 .ret) (.seq (.region [⟨none, some 39, .bin .eql (.tmp 8) (.const (.int .i64 10))⟩,
  ⟨none, some 38, .mv (.tmp 39)⟩])
 (.cond (.tmp 38) (.seq (.region [⟨none, some 40, .mv (.tmp 1)⟩,
  ⟨none, some 41, .mv (.tmp 2)⟩,
  ⟨none, some 42, .bin .geq (.tmp 40) (.tmp 41)⟩,
  ⟨none, some 6, .mv (.tmp 42)⟩])
 .ret) .skip))))))))))))))
 (.seq (.region [⟨none, some 6, .mv (.const (.bool false))⟩])
 .ret))),
 [.tmp 6]⟩
theorem c_alu_Taken : compF P0 pf Go.Proofs.Tryz.f87 = some L_alu_Taken := by kernel_rfl
/-- undertow/ops.register -/
abbrev n_ops_register : Nat := 88
def L_ops_register : LFn := ⟨10, (.seq (.region [⟨none, some 2, .mv (.const (.int .i64 0))⟩])
 (.seq (.seq (.region [⟨none, some 3, .mv (.tmp 0)⟩,
  ⟨none, some 4, .bin .lss (.tmp 3) (.const (.int .i64 0))⟩,
  ⟨none, some 5, .mv (.tmp 4)⟩,
  ⟨some (5, false), some 6, .mv (.tmp 0)⟩,
  ⟨some (5, false), some 7, .bin .gtr (.tmp 6) (.const (.int .i64 31))⟩,
  ⟨none, some 8, .pick (.tmp 5) (.const (.bool true)) (.tmp 7)⟩])
 (.cond (.tmp 8) (.seq (.region [⟨none, some 2, .mv (.const (.int .i64 0))⟩])
 .ret) .skip))
 (.seq (.region [⟨none, some 9, .mv (.tmp 0)⟩,
  ⟨none, some 2, .mv (.tmp 9)⟩])
 .ret))),
 [.tmp 2]⟩
theorem c_ops_register : compF P0 pf Go.Proofs.Tryz.f88 = some L_ops_register := by kernel_rfl
/-- undertow/alu.Loaded -/
abbrev n_alu_Loaded : Nat := 89
def L_alu_Loaded : LFn := ⟨24, (.seq (.region [⟨none, some 4, .mv (.const (.int .u64 0))⟩])
 (.seq (.region [⟨none, some 6, .mv (.tmp 0)⟩,
  ⟨none, some 7, .call (.func 41) [(.tmp 6)]⟩,
  ⟨none, some 8, .bin .mul (.const (.int .i64 8)) (.tmp 7)⟩,
  ⟨none, some 5, .mv (.tmp 8)⟩])
 (.seq (.seq (.region [⟨none, some 9, .mv (.tmp 0)⟩,
  ⟨none, some 10, .call (.func 42) [(.tmp 9)]⟩])
 (.block 0 (.seq (.block 2 (.seq (.block 1 (.seq (.seq (.seq (.region [⟨none, some 12, .bin .eql (.tmp 10) (.const (.int .i64 4))⟩,
  ⟨none, some 11, .mv (.tmp 12)⟩])
 (.cond (.tmp 11) (.exit 1) .skip))
 (.seq (.seq (.region [⟨none, some 14, .bin .eql (.tmp 10) (.const (.int .i64 10))⟩,
  ⟨none, some 13, .mv (.tmp 14)⟩])
 (.cond (.tmp 13) .skip (.region [⟨none, some 15, .bin .eql (.tmp 10) (.const (.int .i64 12))⟩,
  ⟨none, some 13, .mv (.tmp 15)⟩])))
 (.cond (.tmp 13) (.exit 2) .skip)))
 (.exit 0)))
 (.seq (.region [⟨none, some 16, .mv (.tmp 0)⟩,
  ⟨none, some 17, .bin .geq (.tmp 16) (.const (.int .i64 15))⟩])
 (.cond (.tmp 17) (.seq (.region [⟨none, some 18, .mv (.tmp 1)⟩,
  ⟨none, some 19, .mv (.tmp 5)⟩,
  ⟨none, some 20, .call (.func 40) [(.tmp 18), (.tmp 19)]⟩,
  ⟨none, some 4, .mv (.tmp 20)⟩])
 .ret) .skip))))
 (.seq (.seq (.region [⟨none, some 21, .mv (.tmp 1)⟩,
  ⟨none, some 22, .mv (.tmp 5)⟩,
  ⟨none, some 23, .call (.func 86) [(.tmp 21), (.tmp 22)]⟩,
  ⟨none, some 4, .mv (.tmp 23)⟩])
 .ret)
 (.exit 0)))))
 (.seq (.region [⟨none, some 4, .mv (.const (.int .u64 0))⟩])
 .ret)))),
 [.tmp 4]⟩
theorem c_alu_Loaded : compF P0 pf Go.Proofs.Tryz.f89 = some L_alu_Loaded := by kernel_rfl
/-- undertow/alu.Result -/
abbrev n_alu_Result : Nat := 90
def L_alu_Result : LFn := ⟨46, (.seq (.region [⟨none, some 4, .box (.tmp 0)⟩,
  ⟨none, some 8, .mv (.const (.int .u64 0))⟩])
 (.seq (.region [⟨none, some 10, .fad 4 (.tmp 4)⟩,
  ⟨none, some 11, .load1 (.tmp 10)⟩,
  ⟨none, some 12, .convI .u64 (.tmp 11)⟩,
  ⟨none, some 9, .mv (.tmp 12)⟩])
 (.seq (.seq (.region [⟨none, some 13, .fad 0 (.tmp 4)⟩,
  ⟨none, some 14, .load1 (.tmp 13)⟩,
  ⟨none, some 15, .call (.func 42) [(.tmp 14)]⟩])
 (.block 0 (.seq (.region [⟨none, some 17, .bin .eql (.tmp 15) (.const (.int .i64 1))⟩,
  ⟨none, some 16, .mv (.tmp 17)⟩])
 (.cond (.tmp 16) (.seq (.seq (.region [⟨none, some 18, .fad 0 (.tmp 4)⟩,
  ⟨none, some 19, .load1 (.tmp 18)⟩,
  ⟨none, some 20, .bin .eql (.tmp 19) (.const (.int .i64 1))⟩])
 (.cond (.tmp 20) (.seq (.region [⟨none, some 21, .mv (.tmp 9)⟩,
  ⟨none, some 8, .mv (.tmp 21)⟩])
 .ret) .skip))
 (.seq (.region [⟨none, some 22, .mv (.tmp 1)⟩,
  ⟨none, some 23, .mv (.tmp 9)⟩,
  ⟨none, some 24, .bin .add (.tmp 22) (.tmp 23)⟩,
  ⟨none, some 8, .mv (.tmp 24)⟩])
 .ret)) (.seq (.region [⟨none, some 26, .bin .eql (.tmp 15) (.const (.int .i64 2))⟩,
  ⟨none, some 25, .mv (.tmp 26)⟩])
 (.cond (.tmp 25) (.seq (.region [⟨none, some 27, .mv (.tmp 1)⟩,
  ⟨none, some 28, .bin .add (.tmp 27) (.const (.int .u64 4))⟩,
  ⟨none, some 8, .mv (.tmp 28)⟩])
 .ret) (.seq (.region [⟨none, some 30, .bin .eql (.tmp 15) (.const (.int .i64 6))⟩,
  ⟨none, some 29, .mv (.tmp 30)⟩])
 (.cond (.tmp 29) (.seq (.region [⟨none, some 31, .call (.func 124) []⟩,
  ⟨none, some 32, .fad 0 (.tmp 4)⟩,
  ⟨none, some 33, .load1 (.tmp 32)⟩,
  ⟨none, some 34, .bin .sub (.tmp 33) (.const (.int .i64 22))⟩,
  ⟨none, some 35, .ix1 13 (.tmp 31) (.tmp 34)⟩,
  ⟨none, some 36, .mv (.tmp 2)⟩,
  ⟨none, some 37, .mv (.tmp 9)⟩,
  ⟨none, some 38, .call (.func 123) [(.tmp 35), (.tmp 36), (.tmp 37)]⟩,
  ⟨none, some 8, .mv (.tmp 38)⟩])
 .ret) (.seq (.region [⟨none, some 40, .bin .eql (.tmp 15) (.const (.int .i64 7))⟩,
  ⟨none, some 39, .mv (.tmp 40)⟩])
 (.cond (.tmp 39) (.seq (.region [⟨none, some 41, .fad 0 (.tmp 4)⟩,
  ⟨none, some 42, .load1 (.tmp 41)⟩,
  ⟨none, some 43, .mv (.tmp 2)⟩,
  ⟨none, some 44, .mv (.tmp 3)⟩,
  ⟨none, some 45, .call (.func 123) [(.tmp 42), (.tmp 43), (.tmp 44)]⟩,
  ⟨none, some 8, .mv (.tmp 45)⟩])
 .ret) .skip))))))))))
 (.seq (.region [⟨none, some 8, .mv (.const (.int .u64 0))⟩])
 .ret)))),
 [.tmp 8]⟩
theorem c_alu_Result : compF P0 pf Go.Proofs.Tryz.f90 = some L_alu_Result := by kernel_rfl
/-- undertow/undertowref05.Names -/
abbrev n_ref05_Names : Nat := 91
def L_ref05_Names : LFn := ⟨2, (.seq (.region [⟨none, some 0, .mv (.const (.slice none 0 0))⟩])
 (.seq (.region [⟨none, some 1, .row 1 75 (zeroRow [.string ⟨#[]⟩] 75) [(0, 1, (.const (.string ⟨#[108, 117, 105]⟩))), (1, 1, (.const (.string ⟨#[97, 117, 105, 112, 99]⟩))), (2, 1, (.const (.string ⟨#[106, 97, 108]⟩))), (3, 1, (.const (.string ⟨#[106, 97, 108, 114]⟩))), (4, 1, (.const (.string ⟨#[98, 101, 113]⟩))), (5, 1, (.const (.string ⟨#[98, 110, 101]⟩))), (6, 1, (.const (.string ⟨#[98, 108, 116]⟩))), (7, 1, (.const (.string ⟨#[98, 103, 101]⟩))), (8, 1, (.const (.string ⟨#[98, 108, 116, 117]⟩))), (9, 1, (.const (.string ⟨#[98, 103, 101, 117]⟩))), (10, 1, (.const (.string ⟨#[108, 98]⟩))), (11, 1, (.const (.string ⟨#[108, 104]⟩))), (12, 1, (.const (.string ⟨#[108, 119]⟩))), (13, 1, (.const (.string ⟨#[108, 100]⟩))), (14, 1, (.const (.string ⟨#[108, 98, 117]⟩))), (15, 1, (.const (.string ⟨#[108, 104, 117]⟩))), (16, 1, (.const (.string ⟨#[108, 119, 117]⟩))), (17, 1, (.const (.string ⟨#[115, 98]⟩))), (18, 1, (.const (.string ⟨#[115, 104]⟩))), (19, 1, (.const (.string ⟨#[115, 119]⟩))), (20, 1, (.const (.string ⟨#[115, 100]⟩))), (21, 1, (.const (.string ⟨#[97, 100, 100, 105]⟩))), (22, 1, (.const (.string ⟨#[115, 108, 116, 105]⟩))), (23, 1, (.const (.string ⟨#[115, 108, 116, 105, 117]⟩))), (24, 1, (.const (.string ⟨#[120, 111, 114, 105]⟩))), (25, 1, (.const (.string ⟨#[111, 114, 105]⟩))), (26, 1, (.const (.string ⟨#[97, 110, 100, 105]⟩))), (27, 1, (.const (.string ⟨#[115, 108, 108, 105]⟩))), (28, 1, (.const (.string ⟨#[115, 114, 108, 105]⟩))), (29, 1, (.const (.string ⟨#[115, 114, 97, 105]⟩))), (30, 1, (.const (.string ⟨#[97, 100, 100, 105, 119]⟩))), (31, 1, (.const (.string ⟨#[115, 108, 108, 105, 119]⟩))), (32, 1, (.const (.string ⟨#[115, 114, 108, 105, 119]⟩))), (33, 1, (.const (.string ⟨#[115, 114, 97, 105, 119]⟩))), (34, 1, (.const (.string ⟨#[97, 100, 100]⟩))), (35, 1, (.const (.string ⟨#[115, 117, 98]⟩))), (36, 1, (.const (.string ⟨#[115, 108, 108]⟩))), (37, 1, (.const (.string ⟨#[115, 108, 116]⟩))), (38, 1, (.const (.string ⟨#[115, 108, 116, 117]⟩))), (39, 1, (.const (.string ⟨#[120, 111, 114]⟩))), (40, 1, (.const (.string ⟨#[115, 114, 108]⟩))), (41, 1, (.const (.string ⟨#[115, 114, 97]⟩))), (42, 1, (.const (.string ⟨#[111, 114]⟩))), (43, 1, (.const (.string ⟨#[97, 110, 100]⟩))), (44, 1, (.const (.string ⟨#[97, 100, 100, 119]⟩))), (45, 1, (.const (.string ⟨#[115, 117, 98, 119]⟩))), (46, 1, (.const (.string ⟨#[115, 108, 108, 119]⟩))), (47, 1, (.const (.string ⟨#[115, 114, 108, 119]⟩))), (48, 1, (.const (.string ⟨#[115, 114, 97, 119]⟩))), (49, 1, (.const (.string ⟨#[102, 101, 110, 99, 101]⟩))), (50, 1, (.const (.string ⟨#[102, 101, 110, 99, 101, 46, 116, 115, 111]⟩))), (51, 1, (.const (.string ⟨#[101, 99, 97, 108, 108]⟩))), (52, 1, (.const (.string ⟨#[101, 98, 114, 101, 97, 107]⟩))), (53, 1, (.const (.string ⟨#[108, 114, 46, 119]⟩))), (54, 1, (.const (.string ⟨#[108, 114, 46, 100]⟩))), (55, 1, (.const (.string ⟨#[115, 99, 46, 119]⟩))), (56, 1, (.const (.string ⟨#[115, 99, 46, 100]⟩))), (57, 1, (.const (.string ⟨#[97, 109, 111, 115, 119, 97, 112, 46, 119]⟩))), (58, 1, (.const (.string ⟨#[97, 109, 111, 97, 100, 100, 46, 119]⟩))), (59, 1, (.const (.string ⟨#[97, 109, 111, 120, 111, 114, 46, 119]⟩))), (60, 1, (.const (.string ⟨#[97, 109, 111, 97, 110, 100, 46, 119]⟩))), (61, 1, (.const (.string ⟨#[97, 109, 111, 111, 114, 46, 119]⟩))), (62, 1, (.const (.string ⟨#[97, 109, 111, 109, 105, 110, 46, 119]⟩))), (63, 1, (.const (.string ⟨#[97, 109, 111, 109, 97, 120, 46, 119]⟩))), (64, 1, (.const (.string ⟨#[97, 109, 111, 109, 105, 110, 117, 46, 119]⟩))), (65, 1, (.const (.string ⟨#[97, 109, 111, 109, 97, 120, 117, 46, 119]⟩))), (66, 1, (.const (.string ⟨#[97, 109, 111, 115, 119, 97, 112, 46, 100]⟩))), (67, 1, (.const (.string ⟨#[97, 109, 111, 97, 100, 100, 46, 100]⟩))), (68, 1, (.const (.string ⟨#[97, 109, 111, 120, 111, 114, 46, 100]⟩))), (69, 1, (.const (.string ⟨#[97, 109, 111, 97, 110, 100, 46, 100]⟩))), (70, 1, (.const (.string ⟨#[97, 109, 111, 111, 114, 46, 100]⟩))), (71, 1, (.const (.string ⟨#[97, 109, 111, 109, 105, 110, 46, 100]⟩))), (72, 1, (.const (.string ⟨#[97, 109, 111, 109, 97, 120, 46, 100]⟩))), (73, 1, (.const (.string ⟨#[97, 109, 111, 109, 105, 110, 117, 46, 100]⟩))), (74, 1, (.const (.string ⟨#[97, 109, 111, 109, 97, 120, 117, 46, 100]⟩)))]⟩,
  ⟨none, some 0, .mv (.tmp 1)⟩])
 .ret)),
 [.tmp 0]⟩
theorem c_ref05_Names : compF P0 pf Go.Proofs.Tryz.f91 = some L_ref05_Names := by kernel_rfl
/-- undertow/field.Get -/
abbrev n_field_Get : Nat := 92
def L_field_Get : LFn := ⟨42, (.seq (.region [⟨none, some 4, .mv (.const (.int .i64 0))⟩])
 (.seq (.region [⟨none, some 11, .mv (.tmp 0)⟩,
  ⟨none, some 12, .call (.func 125) [(.tmp 11)]⟩,
  ⟨none, some 10, .mv (.tmp 12)⟩,
  ⟨none, some 13, .ext (.tmp 10) 0⟩,
  ⟨none, some 14, .ext (.tmp 10) 1⟩,
  ⟨none, some 5, .alloc [.int .i64 0, .int .i64 0, .slice none 0 0]⟩,
  ⟨none, none, .store 3 (.tmp 5) (.tmp 13)⟩,
  ⟨none, some 6, .mv (.tmp 14)⟩])
 (.seq (.seq (.region [⟨none, some 15, .mv (.tmp 6)⟩,
  ⟨none, some 16, .un .not (.tmp 15)⟩])
 (.cond (.tmp 16) (.seq (.region [⟨none, some 4, .mv (.const (.int .i64 0))⟩])
 .ret) .skip))
 (.seq (.region [⟨none, some 7, .mv (.const (.int .u64 0))⟩])
 (.seq (.seq (.region [⟨none, some 17, .fad 2 (.tmp 5)⟩,
  ⟨none, some 18, .load1 (.tmp 17)⟩,
  ⟨none, some 19, .lenS (.tmp 18)⟩,
  ⟨none, some 20, .mv (.const (.int .i64 0))⟩])
 (.block 0 (.loop (.seq (.region [⟨none, some 21, .bin .lss (.tmp 20) (.tmp 19)⟩])
 (.seq (.cond (.tmp 21) .skip (.exit 0))
 (.seq (.block 1 (.seq (.region [⟨none, some 22, .iadS 3 (.tmp 18) (.tmp 20)⟩,
  ⟨none, some 23, .loadN 3 (.tmp 22)⟩,
  ⟨none, some 9, .alloc [.int .i64 0, .int .i64 0, .int .i64 0]⟩,
  ⟨none, none, .store 3 (.tmp 9) (.tmp 23)⟩])
 (.region [⟨none, some 24, .mv (.tmp 7)⟩,
  ⟨none, some 25, .mv (.tmp 1)⟩,
  ⟨none, some 26, .fad 0 (.tmp 9)⟩,
  ⟨none, some 27, .load1 (.tmp 26)⟩,
  ⟨none, some 28, .fad 1 (.tmp 9)⟩,
  ⟨none, some 29, .load1 (.tmp 28)⟩,
  ⟨none, some 30, .call (.func 101) [(.tmp 25), (.tmp 27), (.tmp 29)]⟩,
  ⟨none, some 31, .convI .u64 (.tmp 30)⟩,
  ⟨none, some 32, .fad 2 (.tmp 9)⟩,
  ⟨none, some 33, .load1 (.tmp 32)⟩,
  ⟨none, some 34, .bin .shl (.tmp 31) (.tmp 33)⟩,
  ⟨none, some 35, .bin .or (.tmp 24) (.tmp 34)⟩,
  ⟨none, some 7, .mv (.tmp 35)⟩])))
 (.region [⟨none, some 36, .bin .add (.tmp 20) (.const (.int .i64 1))⟩,
  ⟨none, some 20, .mv (.tmp 36)⟩])))))))
 (.seq (.region [⟨none, some 37, .mv (.tmp 7)⟩,
  ⟨none, some 38, .fad 0 (.tmp 5)⟩,
  ⟨none, some 39, .load1 (.tmp 38)⟩,
  ⟨none, some 40, .call (.func 86) [(.tmp 37), (.tmp 39)]⟩,
  ⟨none, some 41, .convI .i64 (.tmp 40)⟩,
  ⟨none, some 4, .mv (.tmp 41)⟩])
 .ret)))))),
 [.tmp 4]⟩
theorem c_field_Get : compF P0 pf Go.Proofs.Tryz.f92 = some L_field_Get := by kernel_rfl
/-- undertow/decode.number -/
abbrev n_decode_number : Nat := 93
def L_decode_number : LFn := ⟨49, (.seq (.region [⟨none, some 1, .box (.tmp 0)⟩,
  ⟨none, some 2, .mv (.const (.int .i64 0))⟩,
  ⟨none, some 3, .mv (.const (.int .i64 0))⟩])
 (.seq (.region [⟨none, some 7, .fad 0 (.tmp 1)⟩,
  ⟨none, some 8, .load1 (.tmp 7)⟩,
  ⟨none, some 9, .call (.func 101) [(.tmp 8), (.const (.int .i64 25)), (.const (.int .i64 20))]⟩,
  ⟨none, some 10, .convI .i64 (.tmp 9)⟩,
  ⟨none, some 4, .mv (.tmp 10)⟩])
 (.seq (.region [⟨none, some 11, .fad 0 (.tmp 1)⟩,
  ⟨none, some 12, .load1 (.tmp 11)⟩,
  ⟨none, some 13, .call (.func 101) [(.tmp 12), (.const (.int .i64 31)), (.const (.int .i64 26))]⟩,
  ⟨none, some 5, .mv (.tmp 13)⟩])
 (.seq (.block 0 (.seq (.region [⟨none, some 15, .fad 4 (.tmp 1)⟩,
  ⟨none, some 16, .load1 (.tmp 15)⟩,
  ⟨none, some 17, .bin .eql (.tmp 16) (.const (.int .u32 1))⟩,
  ⟨none, some 18, .mv (.tmp 17)⟩,
  ⟨some (18, true), some 19, .mv (.tmp 5)⟩,
  ⟨some (18, true), some 20, .bin .eql (.tmp 19) (.const (.int .u32 0))⟩,
  ⟨none, some 21, .pick (.tmp 18) (.tmp 20) (.const (.bool false))⟩,
  ⟨none, some 14, .mv (.tmp 21)⟩])
 (.cond (.tmp 14) (.seq (.region [⟨none, some 22, .mv (.tmp 4)⟩,
  ⟨none, some 2, .mv (.const (.int .i64 28))⟩,
  ⟨none, some 3, .mv (.tmp 22)⟩])
 .ret) (.seq (.region [⟨none, some 24, .fad 4 (.tmp 1)⟩,
  ⟨none, some 25, .load1 (.tmp 24)⟩,
  ⟨none, some 26, .bin .eql (.tmp 25) (.const (.int .u32 5))⟩,
  ⟨none, some 27, .mv (.tmp 26)⟩,
  ⟨some (27, true), some 28, .mv (.tmp 5)⟩,
  ⟨some (27, true), some 29, .bin .eql (.tmp 28) (.const (.int .u32 0))⟩,
  ⟨none, some 30, .pick (.tmp 27) (.tmp 29) (.const (.bool false))⟩,
  ⟨none, some 23, .mv (.tmp 30)⟩])
 (.cond (.tmp 23) (.seq (.region [⟨none, some 31, .mv (.tmp 4)⟩,
  ⟨none, some 2, .mv (.const (.int .i64 29))⟩,
  ⟨none, some 3, .mv (.tmp 31)⟩])
 .ret) (.seq (.region [⟨none, some 33, .fad 4 (.tmp 1)⟩,
  ⟨none, some 34, .load1 (.tmp 33)⟩,
  ⟨none, some 35, .bin .eql (.tmp 34) (.const (.int .u32 5))⟩,
  ⟨none, some 36, .mv (.tmp 35)⟩,
  ⟨some (36, true), some 37, .mv (.tmp 5)⟩,
  ⟨some (36, true), some 38, .bin .eql (.tmp 37) (.const (.int .u32 16))⟩,
  ⟨none, some 39, .pick (.tmp 36) (.tmp 38) (.const (.bool false))⟩,
  ⟨none, some 32, .mv (.tmp 39)⟩])
 (.cond (.tmp 32) (.seq (.region [⟨none, some 40, .mv (.tmp 4)⟩,
  ⟨none, some 2, .mv (.const (.int .i64 30))⟩,
  ⟨none, some 3, .mv (.tmp 40)⟩])
 .ret) .skip)))))))
 (.seq (.region [⟨none, some 41, .build [.int .i64 0, .int .i64 0, .int .i64 0, .int .i64 0, .int .i64 0, .int .i64 0, .int .i64 0, .int .i64 0] [(0, 1, (.const (.int .i64 22))), (2, 1, (.const (.int .i64 23))), (3, 1, (.const (.int .i64 24))), (4, 1, (.const (.int .i64 25))), (6, 1, (.const (.int .i64 26))), (7, 1, (.const (.int .i64 27)))]⟩,
  ⟨none, some 6, .alloc [.int .i64 0, .int .i64 0, .int .i64 0, .int .i64 0, .int .i64 0, .int .i64 0, .int .i64 0, .int .i64 0]⟩,
  ⟨none, none, .store 8 (.tmp 6) (.tmp 41)⟩])
 (.seq (.region [⟨none, some 42, .fad 4 (.tmp 1)⟩,
  ⟨none, some 43, .load1 (.tmp 42)⟩,
  ⟨none, some 44, .iadA 8 1 (.tmp 6) (.tmp 43)⟩,
  ⟨none, some 45, .load1 (.tmp 44)⟩,
  ⟨none, some 46, .fad 0 (.tmp 1)⟩,
  ⟨none, some 47, .load1 (.tmp 46)⟩,
  ⟨none, some 48, .call (.func 92) [(.const (.int .i64 1)), (.tmp 47)]⟩,
  ⟨none, some 2, .mv (.tmp 45)⟩,
  ⟨none, some 3, .mv (.tmp 48)⟩])
 .ret)))))),
 [.tmp 2, .tmp 3]⟩
theorem c_decode_number : compF P0 pf Go.Proofs.Tryz.f93 = some L_decode_number := by kernel_rfl
/-- undertow/decode.numberW -/
abbrev n_decode_numberW : Nat := 94
def L_decode_numberW : LFn := ⟨44, (.seq (.region [⟨none, some 1, .box (.tmp 0)⟩,
  ⟨none, some 2, .mv (.const (.int .i64 0))⟩,
  ⟨none, some 3, .mv (.const (.int .i64 0))⟩])
 (.seq (.block 0 (.seq (.region [⟨none, some 5, .fad 4 (.tmp 1)⟩,
  ⟨none, some 6, .load1 (.tmp 5)⟩,
  ⟨none, some 7, .bin .eql (.tmp 6) (.const (.int .u32 0))⟩,
  ⟨none, some 4, .mv (.tmp 7)⟩])
 (.cond (.tmp 4) (.seq (.region [⟨none, some 8, .fad 0 (.tmp 1)⟩,
  ⟨none, some 9, .load1 (.tmp 8)⟩,
  ⟨none, some 10, .call (.func 92) [(.const (.int .i64 1)), (.tmp 9)]⟩,
  ⟨none, some 2, .mv (.const (.int .i64 31))⟩,
  ⟨none, some 3, .mv (.tmp 10)⟩])
 .ret) (.seq (.region [⟨none, some 12, .fad 4 (.tmp 1)⟩,
  ⟨none, some 13, .load1 (.tmp 12)⟩,
  ⟨none, some 14, .bin .eql (.tmp 13) (.const (.int .u32 1))⟩,
  ⟨none, some 15, .mv (.tmp 14)⟩,
  ⟨some (15, true), some 16, .fad 5 (.tmp 1)⟩,
  ⟨some (15, true), some 17, .load1 (.tmp 16)⟩,
  ⟨some (15, true), some 18, .bin .eql (.tmp 17) (.const (.int .u32 0))⟩,
  ⟨none, some 19, .pick (.tmp 15) (.tmp 18) (.const (.bool false))⟩,
  ⟨none, some 11, .mv (.tmp 19)⟩])
 (.cond (.tmp 11) (.seq (.region [⟨none, some 20, .fad 3 (.tmp 1)⟩,
  ⟨none, some 21, .load1 (.tmp 20)⟩,
  ⟨none, some 2, .mv (.const (.int .i64 32))⟩,
  ⟨none, some 3, .mv (.tmp 21)⟩])
 .ret) (.seq (.region [⟨none, some 23, .fad 4 (.tmp 1)⟩,
  ⟨none, some 24, .load1 (.tmp 23)⟩,
  ⟨none, some 25, .bin .eql (.tmp 24) (.const (.int .u32 5))⟩,
  ⟨none, some 26, .mv (.tmp 25)⟩,
  ⟨some (26, true), some 27, .fad 5 (.tmp 1)⟩,
  ⟨some (26, true), some 28, .load1 (.tmp 27)⟩,
  ⟨some (26, true), some 29, .bin .eql (.tmp 28) (.const (.int .u32 0))⟩,
  ⟨none, some 30, .pick (.tmp 26) (.tmp 29) (.const (.bool false))⟩,
  ⟨none, some 22, .mv (.tmp 30)⟩])
 (.cond (.tmp 22) (.seq (.region [⟨none, some 31, .fad 3 (.tmp 1)⟩,
  ⟨none, some 32, .load1 (.tmp 31)⟩,
  ⟨none, some 2, .mv (.const (.int .i64 33))⟩,
  ⟨none, some 3, .mv (.tmp 32)⟩])
 .ret) (.seq (.region [⟨none, some 34, .fad 4 (.tmp 1)⟩,
  ⟨none, some 35, .load1 (.tmp 34)⟩,
  ⟨none, some 36, .bin .eql (.tmp 35) (.const (.int .u32 5))⟩,
  ⟨none, some 37, .mv (.tmp 36)⟩,
  ⟨some (37, true), some 38, .fad 5 (.tmp 1)⟩,
  ⟨some (37, true), some 39, .load1 (.tmp 38)⟩,
  ⟨some (37, true), some 40, .bin .eql (.tmp 39) (.const (.int .u32 32))⟩,
  ⟨none, some 41, .pick (.tmp 37) (.tmp 40) (.const (.bool false))⟩,
  ⟨none, some 33, .mv (.tmp 41)⟩])
 (.cond (.tmp 33) (.seq (.region [⟨none, some 42, .fad 3 (.tmp 1)⟩,
  ⟨none, some 43, .load1 (.tmp 42)⟩,
  ⟨none, some 2, .mv (.const (.int .i64 34))⟩,
  ⟨none, some 3, .mv (.tmp 43)⟩])
 .ret) .skip)))))))))
 (.seq (.region [⟨none, some 2, .mv (.const (.int .i64 0))⟩,
  ⟨none, some 3, .mv (.const (.int .i64 0))⟩])
 .ret))),
 [.tmp 2, .tmp 3]⟩
theorem c_decode_numberW : compF P0 pf Go.Proofs.Tryz.f94 = some L_decode_numberW := by kernel_rfl
/-- undertow/decode.wide -/
abbrev n_decode_wide : Nat := 95
def L_decode_wide : LFn := ⟨4, (.seq (.region [⟨none, some 0, .alloc [.int .i64 0, .int .i64 0, .int .i64 0, .int .i64 0, .int .i64 0, .int .i64 0, .int .i64 0, .int .i64 0]⟩,
  ⟨none, some 1, .alloc [.int .i64 0, .int .i64 0, .int .i64 0, .int .i64 0, .int .i64 0, .int .i64 0, .int .i64 0, .int .i64 0]⟩])
 (.seq (.region [⟨none, some 2, .build [.int .i64 0, .int .i64 0, .int .i64 0, .int .i64 0, .int .i64 0, .int .i64 0, .int .i64 0, .int .i64 0] [(0, 1, (.const (.int .i64 35))), (1, 1, (.const (.int .i64 37))), (2, 1, (.const (.int .i64 38))), (3, 1, (.const (.int .i64 39))), (4, 1, (.const (.int .i64 40))), (5, 1, (.const (.int .i64 41))), (6, 1, (.const (.int .i64 43))), (7, 1, (.const (.int .i64 44)))]⟩,
  ⟨none, some 3, .build [.int .i64 0, .int .i64 0, .int .i64 0, .int .i64 0, .int .i64 0, .int .i64 0, .int .i64 0, .int .i64 0] [(0, 1, (.const (.int .i64 36))), (5, 1, (.const (.int .i64 42))), (7, 1, (.const (.int .i64 0)))]⟩,
  ⟨none, none, .store 8 (.tmp 0) (.tmp 2)⟩,
  ⟨none, none, .store 8 (.tmp 1) (.tmp 3)⟩])
 .ret)),
 [.cellN 0 8, .cellN 1 8]⟩
theorem c_decode_wide : compF P0 pf Go.Proofs.Tryz.f95 = some L_decode_wide := by kernel_rfl
/-- undertow/decode.pair -/
abbrev n_decode_pair : Nat := 96
def L_decode_pair : LFn := ⟨21, (.seq (.region [⟨none, some 3, .box (.tmp 0)⟩,
  ⟨none, some 4, .box (.tmp 1)⟩,
  ⟨none, some 5, .box (.tmp 2)⟩,
  ⟨none, some 6, .mv (.const (.int .i64 0))⟩])
 (.seq (.seq (.region [⟨none, some 7, .fad 5 (.tmp 3)⟩,
  ⟨none, some 8, .load1 (.tmp 7)⟩])
 (.block 0 (.seq (.region [⟨none, some 10, .bin .eql (.tmp 8) (.const (.int .u32 0))⟩,
  ⟨none, some 9, .mv (.tmp 10)⟩])
 (.cond (.tmp 9) (.seq (.region [⟨none, some 11, .fad 4 (.tmp 3)⟩,
  ⟨none, some 12, .load1 (.tmp 11)⟩,
  ⟨none, some 13, .iadA 8 1 (.tmp 4) (.tmp 12)⟩,
  ⟨none, some 14, .load1 (.tmp 13)⟩,
  ⟨none, some 6, .mv (.tmp 14)⟩])
 .ret) (.seq (.region [⟨none, some 16, .bin .eql (.tmp 8) (.const (.int .u32 32))⟩,
  ⟨none, some 15, .mv (.tmp 16)⟩])
 (.cond (.tmp 15) (.seq (.region [⟨none, some 17, .fad 4 (.tmp 3)⟩,
  ⟨none, some 18, .load1 (.tmp 17)⟩,
  ⟨none, some 19, .iadA 8 1 (.tmp 5) (.tmp 18)⟩,
  ⟨none, some 20, .load1 (.tmp 19)⟩,
  ⟨none, some 6, .mv (.tmp 20)⟩])
 .ret) .skip))))))
 (.seq (.region [⟨none, some 6, .mv (.const (.int .i64 0))⟩])
 .ret))),
 [.tmp 6]⟩
theorem c_decode_pair : compF P0 pf Go.Proofs.Tryz.f96 = some L_decode_pair := by kernel_rfl
/-- undertow/decode.narrow -/
abbrev n_decode_narrow : Nat := 97
def L_decode_narrow : LFn := ⟨4, (.seq (.region [⟨none, some 0, .alloc [.int .i64 0, .int .i64 0, .int .i64 0, .int .i64 0, .int .i64 0, .int .i64 0, .int .i64 0, .int .i64 0]⟩,
  ⟨none, some 1, .alloc [.int .i64 0, .int .i64 0, .int .i64 0, .int .i64 0, .int .i64 0, .int .i64 0, .int .i64 0, .int .i64 0]⟩])
 (.seq (.region [⟨none, some 2, .build [.int .i64 0, .int .i64 0, .int .i64 0, .int .i64 0, .int .i64 0, .int .i64 0, .int .i64 0, .int .i64 0] [(0, 1, (.const (.int .i64 45))), (1, 1, (.const (.int .i64 47))), (5, 1, (.const (.int .i64 48))), (7, 1, (.const (.int .i64 0)))]⟩,
  ⟨none, some 3, .build [.int .i64 0, .int .i64 0, .int .i64 0, .int .i64 0, .int .i64 0, .int .i64 0, .int .i64 0, .int .i64 0] [(0, 1, (.const (.int .i64 46))), (5, 1, (.const (.int .i64 49))), (7, 1, (.const (.int .i64 0)))]⟩,
  ⟨none, none, .store 8 (.tmp 0) (.tmp 2)⟩,
  ⟨none, none, .store 8 (.tmp 1) (.tmp 3)⟩])
 .ret)),
 [.cellN 0 8, .cellN 1 8]⟩
theorem c_decode_narrow : compF P0 pf Go.Proofs.Tryz.f97 = some L_decode_narrow := by kernel_rfl
/-- undertow/decode.fence -/
abbrev n_decode_fence : Nat := 98
def L_decode_fence : LFn := ⟨14, (.seq (.region [⟨none, some 2, .alloc [.int .i64 0, .int .i64 0, .int .i64 0, .int .i64 0, .int .i64 0, .bool false, .bool false, .int .i64 0, .int .i64 0]⟩])
 (.seq (.seq (.region [⟨none, some 3, .mv (.tmp 0)⟩,
  ⟨none, some 4, .call (.func 101) [(.tmp 3), (.const (.int .i64 31)), (.const (.int .i64 20))]⟩,
  ⟨none, some 5, .bin .eql (.tmp 4) (.const (.int .u32 2099))⟩])
 (.cond (.tmp 5) (.seq (.region [⟨none, some 6, .build [.int .i64 0, .int .i64 0, .int .i64 0, .int .i64 0, .int .i64 0, .bool false, .bool false, .int .i64 0, .int .i64 0] [(0, 1, (.const (.int .i64 51))), (7, 1, (.const (.int .i64 3))), (8, 1, (.const (.int .i64 3)))]⟩,
  ⟨none, none, .store 9 (.tmp 2) (.tmp 6)⟩])
 .ret) .skip))
 (.seq (.region [⟨none, some 7, .mv (.tmp 0)⟩,
  ⟨none, some 8, .call (.func 101) [(.tmp 7), (.const (.int .i64 27)), (.const (.int .i64 24))]⟩,
  ⟨none, some 9, .convI .i64 (.tmp 8)⟩,
  ⟨none, some 10, .mv (.tmp 0)⟩,
  ⟨none, some 11, .call (.func 101) [(.tmp 10), (.const (.int .i64 23)), (.const (.int .i64 20))]⟩,
  ⟨none, some 12, .convI .i64 (.tmp 11)⟩,
  ⟨none, some 13, .build [.int .i64 0, .int .i64 0, .int .i64 0, .int .i64 0, .int .i64 0, .bool false, .bool false, .int .i64 0, .int .i64 0] [(0, 1, (.const (.int .i64 50))), (7, 1, (.tmp 9)), (8, 1, (.tmp 12))]⟩,
  ⟨none, none, .store 9 (.tmp 2) (.tmp 13)⟩])
 .ret))),
 [.cellN 2 9]⟩
theorem c_decode_fence : compF P0 pf Go.Proofs.Tryz.f98 = some L_decode_fence := by kernel_rfl
/-- undertow/decode.atomic -/
abbrev n_decode_atomic : Nat := 99
def L_decode_atomic : LFn := ⟨53, (.seq (.region [⟨none, some 1, .box (.tmp 0)⟩,
  ⟨none, some 2, .mv (.const (.int .i64 0))⟩])
 (.seq (.region [⟨none, some 3, .mv (.const (.int .i64 0))⟩])
 (.seq (.seq (.region [⟨none, some 4, .fad 0 (.tmp 1)⟩,
  ⟨none, some 5, .load1 (.tmp 4)⟩,
  ⟨none, some 6, .call (.func 101) [(.tmp 5), (.const (.int .i64 31)), (.const (.int .i64 27))]⟩])
 (.block 0 (.seq (.region [⟨none, some 8, .bin .eql (.tmp 6) (.const (.int .u32 2))⟩,
  ⟨none, some 7, .mv (.tmp 8)⟩])
 (.cond (.tmp 7) (.seq (.region [⟨none, some 9, .fad 3 (.tmp 1)⟩,
  ⟨none, some 10, .load1 (.tmp 9)⟩,
  ⟨none, some 11, .bin .eql (.tmp 10) (.const (.int .i64 0))⟩])
 (.cond (.tmp 11) (.region [⟨none, some 3, .mv (.const (.int .i64 54))⟩]) .skip)) (.seq (.region [⟨none, some 13, .bin .eql (.tmp 6) (.const (.int .u32 3))⟩,
  ⟨none, some 12, .mv (.tmp 13)⟩])
 (.cond (.tmp 12) (.region [⟨none, some 3, .mv (.const (.int .i64 56))⟩]) (.seq (.region [⟨none, some 15, .bin .eql (.tmp 6) (.const (.int .u32 1))⟩,
  ⟨none, some 14, .mv (.tmp 15)⟩])
 (.cond (.tmp 14) (.region [⟨none, some 3, .mv (.const (.int .i64 58))⟩]) (.seq (.region [⟨none, some 17, .bin .eql (.tmp 6) (.const (.int .u32 0))⟩,
  ⟨none, some 16, .mv (.tmp 17)⟩])
 (.cond (.tmp 16) (.region [⟨none, some 3, .mv (.const (.int .i64 59))⟩]) (.seq (.region [⟨none, some 19, .bin .eql (.tmp 6) (.const (.int .u32 4))⟩,
  ⟨none, some 18, .mv (.tmp 19)⟩])
 (.cond (.tmp 18) (.region [⟨none, some 3, .mv (.const (.int .i64 60))⟩]) (.seq (.region [⟨none, some 21, .bin .eql (.tmp 6) (.const (.int .u32 12))⟩,
  ⟨none, some 20, .mv (.tmp 21)⟩])
 (.cond (.tmp 20) (.region [⟨none, some 3, .mv (.const (.int .i64 61))⟩]) (.seq (.region [⟨none, some 23, .bin .eql (.tmp 6) (.const (.int .u32 8))⟩,
  ⟨none, some 22, .mv (.tmp 23)⟩])
 (.cond (.tmp 22) (.region [⟨none, some 3, .mv (.const (.int .i64 62))⟩]) (.seq (.region [⟨none, some 25, .bin .eql (.tmp 6) (.const (.int .u32 16))⟩,
  ⟨none, some 24, .mv (.tmp 25)⟩])
 (.cond (.tmp 24) (.region [⟨none, some 3, .mv (.const (.int .i64 63))⟩]) (.seq (.region [⟨none, some 27, .bin .eql (.tmp 6) (.const (.int .u32 20))⟩,
  ⟨none, some 26, .mv (.tmp 27)⟩])
 (.cond (.tmp 26) (.region [⟨none, some 3, .mv (.const (.int .i64 64))⟩]) (.seq (.region [⟨none, some 29, .bin .eql (.tmp 6) (.const (.int .u32 24))⟩,
  ⟨none, some 28, .mv (.tmp 29)⟩])
 (.cond (.tmp 28) (.region [⟨none, some 3, .mv (.const (.int .i64 65))⟩]) (.seq (.region [⟨none, some 31, .bin .eql (.tmp 6) (.const (.int .u32 28))⟩,
  ⟨none, some 30, .mv (.tmp 31)⟩])
 (.cond (.tmp 30) (.region [⟨none, some 3, .mv (.const (.int .i64 66))⟩]) .skip))))))))))))))))))))))))
 (.seq (.block 1 (.seq (.region [⟨none, some 33, .mv (.tmp 3)⟩,
  ⟨none, some 34, .bin .eql (.tmp 33) (.const (.int .i64 0))⟩,
  ⟨none, some 35, .mv (.tmp 34)⟩,
  ⟨some (35, false), some 36, .fad 4 (.tmp 1)⟩,
  ⟨some (35, false), some 37, .load1 (.tmp 36)⟩,
  ⟨some (35, false), some 38, .bin .eql (.tmp 37) (.const (.int .u32 2))⟩,
  ⟨none, some 39, .pick (.tmp 35) (.const (.bool true)) (.tmp 38)⟩,
  ⟨none, some 32, .mv (.tmp 39)⟩])
 (.cond (.tmp 32) (.seq (.region [⟨none, some 40, .mv (.tmp 3)⟩,
  ⟨none, some 2, .mv (.tmp 40)⟩])
 .ret) (.seq (.region [⟨none, some 42, .fad 4 (.tmp 1)⟩,
  ⟨none, some 43, .load1 (.tmp 42)⟩,
  ⟨none, some 44, .bin .neq (.tmp 43) (.const (.int .u32 3))⟩,
  ⟨none, some 41, .mv (.tmp 44)⟩])
 (.cond (.tmp 41) (.seq (.region [⟨none, some 2, .mv (.const (.int .i64 0))⟩])
 .ret) (.seq (.region [⟨none, some 46, .mv (.tmp 3)⟩,
  ⟨none, some 47, .bin .leq (.tmp 46) (.const (.int .i64 56))⟩,
  ⟨none, some 45, .mv (.tmp 47)⟩])
 (.cond (.tmp 45) (.seq (.region [⟨none, some 48, .mv (.tmp 3)⟩,
  ⟨none, some 49, .bin .add (.tmp 48) (.const (.int .i64 1))⟩,
  ⟨none, some 2, .mv (.tmp 49)⟩])
 .ret) .skip)))))))
 (.seq (.region [⟨none, some 50, .mv (.tmp 3)⟩,
  ⟨none, some 51, .bin .add (.tmp 50) (.const (.int .i64 67))⟩,
  ⟨none, some 52, .bin .sub (.tmp 51) (.const (.int .i64 58))⟩,
  ⟨none, some 2, .mv (.tmp 52)⟩])
 .ret))))),
 [.tmp 2]⟩
theorem c_decode_atomic : compF P0 pf Go.Proofs.Tryz.f99 = some L_decode_atomic := by kernel_rfl
/-- undertow/decode.split$1 -/
abbrev n_decode_split_1 : Nat := 100
def L_decode_split_1 : LFn := ⟨10, (.seq (.region [⟨none, some 5, .mv (.const (.int .u32 0))⟩])
 (.seq (.region [⟨none, some 6, .load1 (.tmp 2)⟩,
  ⟨none, some 7, .mv (.tmp 0)⟩,
  ⟨none, some 8, .mv (.tmp 1)⟩,
  ⟨none, some 9, .call (.func 101) [(.tmp 6), (.tmp 7), (.tmp 8)]⟩,
  ⟨none, some 5, .mv (.tmp 9)⟩])
 .ret)),
 [.tmp 5]⟩
theorem c_decode_split_1 : compF P0 pf Go.Proofs.Tryz.f100 = some L_decode_split_1 := by kernel_rfl
/-- undertow/word.Field -/
abbrev n_word_Field : Nat := 101
def L_word_Field : LFn := ⟨28, (.seq (.region [⟨none, some 6, .mv (.const (.int .u32 0))⟩])
 (.seq (.seq (.region [⟨none, some 7, .mv (.tmp 1)⟩,
  ⟨none, some 8, .bin .gtr (.tmp 7) (.const (.int .i64 31))⟩,
  ⟨none, some 9, .mv (.tmp 8)⟩,
  ⟨some (9, false), some 10, .mv (.tmp 2)⟩,
  ⟨some (9, false), some 11, .mv (.tmp 1)⟩,
  ⟨some (9, false), some 12, .bin .gtr (.tmp 10) (.tmp 11)⟩,
  ⟨none, some 13, .pick (.tmp 9) (.const (.bool true)) (.tmp 12)⟩,
  ⟨none, some 14, .mv (.tmp 13)⟩,
  ⟨some (14, false), some 15, .mv (.tmp 2)⟩,
  ⟨some (14, false), some 16, .bin .lss (.tmp 15) (.const (.int .i64 0))⟩,
  ⟨none, some 17, .pick (.tmp 14) (.const (.bool true)) (.tmp 16)⟩])
 (.cond (.tmp 17) (.seq (.region [⟨none, some 6, .mv (.const (.int .u32 0))⟩])
 .ret) .skip))
 (.seq (.region [⟨none, some 18, .mv (.tmp 0)⟩,
  ⟨none, some 19, .convI .u64 (.tmp 18)⟩,
  ⟨none, some 20, .mv (.tmp 2)⟩,
  ⟨none, some 21, .bin .shr (.tmp 19) (.tmp 20)⟩,
  ⟨none, some 22, .mv (.tmp 1)⟩,
  ⟨none, some 23, .mv (.tmp 2)⟩,
  ⟨none, some 24, .bin .sub (.tmp 22) (.tmp 23)⟩,
  ⟨none, some 25, .bin .add (.tmp 24) (.const (.int .i64 1))⟩,
  ⟨none, some 26, .call (.func 40) [(.tmp 21), (.tmp 25)]⟩,
  ⟨none, some 27, .convI .u32 (.tmp 26)⟩,
  ⟨none, some 6, .mv (.tmp 27)⟩])
 .ret))),
 [.tmp 6]⟩
theorem c_word_Field : compF P0 pf Go.Proofs.Tryz.f101 = some L_word_Field := by kernel_rfl
/-- undertow/ops.Sources -/
abbrev n_ops_Sources : Nat := 102
def L_ops_Sources : LFn := ⟨54, (.seq (.region [⟨none, some 1, .box (.tmp 0)⟩,
  ⟨none, some 2, .mv (.const (.slice none 0 0))⟩])
 (.seq (.region [⟨none, some 3, .mv (.const (.slice none 0 0))⟩])
 (.seq (.seq (.region [⟨none, some 7, .fad 0 (.tmp 1)⟩,
  ⟨none, some 8, .load1 (.tmp 7)⟩,
  ⟨none, some 9, .call (.func 42) [(.tmp 8)]⟩])
 (.block 0 (.seq (.seq (.region [⟨none, some 11, .bin .eql (.tmp 9) (.const (.int .i64 3))⟩,
  ⟨none, some 10, .mv (.tmp 11)⟩])
 (.cond (.tmp 10) .skip (.seq (.region [⟨none, some 12, .bin .eql (.tmp 9) (.const (.int .i64 5))⟩,
  ⟨none, some 10, .mv (.tmp 12)⟩])
 (.cond (.tmp 10) .skip (.seq (.region [⟨none, some 13, .bin .eql (.tmp 9) (.const (.int .i64 7))⟩,
  ⟨none, some 10, .mv (.tmp 13)⟩])
 (.cond (.tmp 10) .skip (.seq (.region [⟨none, some 14, .bin .eql (.tmp 9) (.const (.int .i64 11))⟩,
  ⟨none, some 10, .mv (.tmp 14)⟩])
 (.cond (.tmp 10) .skip (.region [⟨none, some 15, .bin .eql (.tmp 9) (.const (.int .i64 12))⟩,
  ⟨none, some 10, .mv (.tmp 15)⟩])))))))))
 (.cond (.tmp 10) (.region [⟨none, some 16, .fad 2 (.tmp 1)⟩,
  ⟨none, some 17, .load1 (.tmp 16)⟩,
  ⟨none, some 18, .call (.func 88) [(.tmp 17)]⟩,
  ⟨none, some 19, .fad 3 (.tmp 1)⟩,
  ⟨none, some 20, .load1 (.tmp 19)⟩,
  ⟨none, some 21, .call (.func 88) [(.tmp 20)]⟩,
  ⟨none, some 22, .row 1 2 (zeroRow [.int .i64 0] 2) [(0, 1, (.tmp 18)), (1, 1, (.tmp 21))]⟩,
  ⟨none, some 3, .mv (.tmp 22)⟩]) (.seq (.seq (.region [⟨none, some 24, .bin .eql (.tmp 9) (.const (.int .i64 4))⟩,
  ⟨none, some 23, .mv (.tmp 24)⟩])
 (.cond (.tmp 23) .skip (.seq (.region [⟨none, some 25, .bin .eql (.tmp 9) (.const (.int .i64 6))⟩,
  ⟨none, some 23, .mv (.tmp 25)⟩])
 (.cond (.tmp 23) .skip (.region [⟨none, some 26, .bin .eql (.tmp 9) (.const (.int .i64 10))⟩,
  ⟨none, some 23, .mv (.tmp 26)⟩])))))
 (.cond (.tmp 23) (.region [⟨none, some 27, .fad 2 (.tmp 1)⟩,
  ⟨none, some 28, .load1 (.tmp 27)⟩,
  ⟨none, some 29, .call (.func 88) [(.tmp 28)]⟩,
  ⟨none, some 30, .row 1 1 (zeroRow [.int .i64 0] 1) [(0, 1, (.tmp 29))]⟩,
  ⟨none, some 3, .mv (.tmp 30)⟩]) (.seq (.region [⟨none, some 32, .bin .eql (.tmp 9) (.const (.int .i64 2))⟩,
  ⟨none, some 31, .mv (.tmp 32)⟩])
 (.cond (.tmp 31) (.seq (.region [⟨none, some 33, .fad 0 (.tmp 1)⟩,
  ⟨none, some 34, .load1 (.tmp 33)⟩,
  ⟨none, some 35, .bin .eql (.tmp 34) (.const (.int .i64 4))⟩])
 (.cond (.tmp 35) (.region [⟨none, some 36, .fad 2 (.tmp 1)⟩,
  ⟨none, some 37, .load1 (.tmp 36)⟩,
  ⟨none, some 38, .call (.func 88) [(.tmp 37)]⟩,
  ⟨none, some 39, .row 1 1 (zeroRow [.int .i64 0] 1) [(0, 1, (.tmp 38))]⟩,
  ⟨none, some 3, .mv (.tmp 39)⟩]) .skip)) .skip))))))))
 (.seq (.region [⟨none, some 4, .mv (.const (.slice none 0 0))⟩])
 (.seq (.seq (.region [⟨none, some 40, .mv (.tmp 3)⟩,
  ⟨none, some 41, .lenS (.tmp 40)⟩,
  ⟨none, some 42, .mv (.const (.int .i64 0))⟩])
 (.block 1 (.loop (.seq (.region [⟨none, some 43, .bin .lss (.tmp 42) (.tmp 41)⟩])
 (.seq (.cond (.tmp 43) .skip (.exit 1))
 (.seq (.block 2 (.seq (.region [⟨none, some 44, .iadS 1 (.tmp 40) (.tmp 42)⟩,
  ⟨none, some 45, .load1 (.tmp 44)⟩,
  ⟨none, some 6, .mv (.tmp 45)⟩])
 (.seq (.region [⟨none, some 46, .mv (.tmp 6)⟩,
  ⟨none, some 47, .bin .neq (.tmp 46) (.const (.int .i64 0))⟩])
 (.cond (.tmp 47) (.region [⟨none, some 48, .mv (.tmp 4)⟩,
  ⟨none, some 49, .mv (.tmp 6)⟩,
  ⟨none, some 50, .rowM 1 (zeroRow [.int .i64 0] 1) [(0, 1, (.tmp 49))]⟩,
  ⟨none, some 51, .app 1 8 (.tmp 48) (.tmp 50)⟩,
  ⟨none, some 4, .mv (.tmp 51)⟩]) .skip))))
 (.region [⟨none, some 52, .bin .add (.tmp 42) (.const (.int .i64 1))⟩,
  ⟨none, some 42, .mv (.tmp 52)⟩])))))))
 (.seq (.region [⟨none, some 53, .mv (.tmp 4)⟩,
  ⟨none, some 2, .mv (.tmp 53)⟩])
 .ret)))))),
 [.tmp 2]⟩
theorem c_ops_Sources : compF P0 pf Go.Proofs.Tryz.f102 = some L_ops_Sources := by kernel_rfl
/-- undertow/encode.shift -/
abbrev n_encode_shift : Nat := 103
def L_encode_shift : LFn := ⟨12, (.seq (.region [⟨none, some 2, .mv (.const (.int .i64 0))⟩])
 (.seq (.seq (.region [⟨none, some 3, .mv (.tmp 0)⟩])
 (.block 0 (.seq (.seq (.region [⟨none, some 5, .bin .eql (.tmp 3) (.const (.int .i64 28))⟩,
  ⟨none, some 4, .mv (.tmp 5)⟩])
 (.cond (.tmp 4) .skip (.seq (.region [⟨none, some 6, .bin .eql (.tmp 3) (.const (.int .i64 29))⟩,
  ⟨none, some 4, .mv (.tmp 6)⟩])
 (.cond (.tmp 4) .skip (.region [⟨none, some 7, .bin .eql (.tmp 3) (.const (.int .i64 30))⟩,
  ⟨none, some 4, .mv (.tmp 7)⟩])))))
 (.cond (.tmp 4) (.seq (.region [⟨none, some 2, .mv (.const (.int .i64 6))⟩])
 .ret) (.seq (.seq (.region [⟨none, some 9, .bin .eql (.tmp 3) (.const (.int .i64 32))⟩,
  ⟨none, some 8, .mv (.tmp 9)⟩])
 (.cond (.tmp 8) .skip (.seq (.region [⟨none, some 10, .bin .eql (.tmp 3) (.const (.int .i64 33))⟩,
  ⟨none, some 8, .mv (.tmp 10)⟩])
 (.cond (.tmp 8) .skip (.region [⟨none, some 11, .bin .eql (.tmp 3) (.const (.int .i64 34))⟩,
  ⟨none, some 8, .mv (.tmp 11)⟩])))))
 (.cond (.tmp 8) (.seq (.region [⟨none, some 2, .mv (.const (.int .i64 5))⟩])
 .ret) .skip))))))
 (.seq (.region [⟨none, some 2, .mv (.const (.int .i64 0))⟩])
 .ret))),
 [.tmp 2]⟩
theorem c_encode_shift : compF P0 pf Go.Proofs.Tryz.f103 = some L_encode_shift := by kernel_rfl
/-- undertow/encode.format -/
abbrev n_encode_format : Nat := 104
def L_encode_format : LFn := ⟨22, (.seq (.region [⟨none, some 2, .mv (.const (.int .i64 0))⟩])
 (.seq (.seq (.region [⟨none, some 3, .mv (.tmp 0)⟩,
  ⟨none, some 4, .call (.func 42) [(.tmp 3)]⟩])
 (.block 0 (.seq (.region [⟨none, some 6, .bin .eql (.tmp 4) (.const (.int .i64 1))⟩,
  ⟨none, some 5, .mv (.tmp 6)⟩])
 (.cond (.tmp 5) (.seq (.region [⟨none, some 2, .mv (.const (.int .i64 4))⟩])
 .ret) (.seq (.region [⟨none, some 8, .bin .eql (.tmp 4) (.const (.int .i64 3))⟩,
  ⟨none, some 7, .mv (.tmp 8)⟩])
 (.cond (.tmp 7) (.seq (.region [⟨none, some 2, .mv (.const (.int .i64 3))⟩])
 .ret) (.seq (.region [⟨none, some 10, .bin .eql (.tmp 4) (.const (.int .i64 5))⟩,
  ⟨none, some 9, .mv (.tmp 10)⟩])
 (.cond (.tmp 9) (.seq (.region [⟨none, some 2, .mv (.const (.int .i64 2))⟩])
 .ret) (.seq (.region [⟨none, some 12, .bin .eql (.tmp 4) (.const (.int .i64 2))⟩,
  ⟨none, some 11, .mv (.tmp 12)⟩])
 (.cond (.tmp 11) (.seq (.seq (.region [⟨none, some 13, .mv (.tmp 0)⟩,
  ⟨none, some 14, .bin .eql (.tmp 13) (.const (.int .i64 3))⟩])
 (.cond (.tmp 14) (.seq (.region [⟨none, some 2, .mv (.const (.int .i64 5))⟩])
 .ret) .skip))
 (.seq (.region [⟨none, some 2, .mv (.const (.int .i64 1))⟩])
 .ret)) (.seq (.region [⟨none, some 16, .bin .eql (.tmp 4) (.const (.int .i64 4))⟩,
  ⟨none, some 15, .mv (.tmp 16)⟩])
 (.cond (.tmp 15) (.seq (.region [⟨none, some 2, .mv (.const (.int .i64 1))⟩])
 .ret) (.seq (.region [⟨none, some 18, .bin .eql (.tmp 4) (.const (.int .i64 6))⟩,
  ⟨none, some 17, .mv (.tmp 18)⟩])
 (.cond (.tmp 17) (.seq (.region [⟨none, some 19, .mv (.tmp 0)⟩,
  ⟨none, some 20, .call (.func 103) [(.tmp 19)]⟩,
  ⟨none, some 21, .bin .eql (.tmp 20) (.const (.int .i64 0))⟩])
 (.cond (.tmp 21) (.seq (.region [⟨none, some 2, .mv (.const (.int .i64 1))⟩])
 .ret) .skip)) .skip))))))))))))))
 (.seq (.region [⟨none, some 2, .mv (.const (.int .i64 0))⟩])
 .ret))),
 [.tmp 2]⟩
theorem c_encode_format : compF P0 pf Go.Proofs.Tryz.f104 = some L_encode_format := by kernel_rfl
/-- undertow/field.Put -/
abbrev n_field_Put : Nat := 105
def L_field_Put : LFn := ⟨63, (.seq (.region [⟨none, some 4, .mv (.const (.int .u32 0))⟩,
  ⟨none, some 5, .mv (.const (.bool false))⟩])
 (.seq (.region [⟨none, some 12, .mv (.tmp 0)⟩,
  ⟨none, some 13, .call (.func 125) [(.tmp 12)]⟩,
  ⟨none, some 11, .mv (.tmp 13)⟩,
  ⟨none, some 14, .ext (.tmp 11) 0⟩,
  ⟨none, some 15, .ext (.tmp 11) 1⟩,
  ⟨none, some 6, .alloc [.int .i64 0, .int .i64 0, .slice none 0 0]⟩,
  ⟨none, none, .store 3 (.tmp 6) (.tmp 14)⟩,
  ⟨none, some 7, .mv (.tmp 15)⟩])
 (.seq (.seq (.region [⟨none, some 16, .mv (.tmp 7)⟩,
  ⟨none, some 17, .un .not (.tmp 16)⟩,
  ⟨none, some 18, .mv (.tmp 17)⟩,
  ⟨some (18, false), some 19, .mv (.tmp 1)⟩,
  ⟨some (18, false), some 20, .convI .u64 (.tmp 19)⟩,
  ⟨some (18, false), some 21, .fad 0 (.tmp 6)⟩,
  ⟨some (18, false), some 22, .load1 (.tmp 21)⟩,
  ⟨some (18, false), some 23, .call (.func 86) [(.tmp 20), (.tmp 22)]⟩,
  ⟨some (18, false), some 24, .mv (.tmp 1)⟩,
  ⟨some (18, false), some 25, .convI .u64 (.tmp 24)⟩,
  ⟨some (18, false), some 26, .bin .neq (.tmp 23) (.tmp 25)⟩,
  ⟨none, some 27, .pick (.tmp 18) (.const (.bool true)) (.tmp 26)⟩,
  ⟨none, some 28, .mv (.tmp 27)⟩,
  ⟨some (28, false), some 29, .mv (.tmp 1)⟩,
  ⟨some (28, false), some 30, .convI .u64 (.tmp 29)⟩,
  ⟨some (28, false), some 31, .fad 1 (.tmp 6)⟩,
  ⟨some (28, false), some 32, .load1 (.tmp 31)⟩,
  ⟨some (28, false), some 33, .call (.func 40) [(.tmp 30), (.tmp 32)]⟩,
  ⟨some (28, false), some 34, .bin .neq (.tmp 33) (.const (.int .u64 0))⟩,
  ⟨none, some 35, .pick (.tmp 28) (.const (.bool true)) (.tmp 34)⟩])
 (.cond (.tmp 35) (.seq (.region [⟨none, some 4, .mv (.const (.int .u32 0))⟩,
  ⟨none, some 5, .mv (.const (.bool false))⟩])
 .ret) .skip))
 (.seq (.region [⟨none, some 8, .mv (.const (.int .u32 0))⟩])
 (.seq (.seq (.region [⟨none, some 36, .fad 2 (.tmp 6)⟩,
  ⟨none, some 37, .load1 (.tmp 36)⟩,
  ⟨none, some 38, .lenS (.tmp 37)⟩,
  ⟨none, some 39, .mv (.const (.int .i64 0))⟩])
 (.block 0 (.loop (.seq (.region [⟨none, some 40, .bin .lss (.tmp 39) (.tmp 38)⟩])
 (.seq (.cond (.tmp 40) .skip (.exit 0))
 (.seq (.block 1 (.seq (.region [⟨none, some 41, .iadS 3 (.tmp 37) (.tmp 39)⟩,
  ⟨none, some 42, .loadN 3 (.tmp 41)⟩,
  ⟨none, some 10, .alloc [.int .i64 0, .int .i64 0, .int .i64 0]⟩,
  ⟨none, none, .store 3 (.tmp 10) (.tmp 42)⟩])
 (.region [⟨none, some 43, .mv (.tmp 8)⟩,
  ⟨none, some 44, .mv (.tmp 1)⟩,
  ⟨none, some 45, .convI .u64 (.tmp 44)⟩,
  ⟨none, some 46, .fad 2 (.tmp 10)⟩,
  ⟨none, some 47, .load1 (.tmp 46)⟩,
  ⟨none, some 48, .bin .shr (.tmp 45) (.tmp 47)⟩,
  ⟨none, some 49, .fad 0 (.tmp 10)⟩,
  ⟨none, some 50, .load1 (.tmp 49)⟩,
  ⟨none, some 51, .fad 1 (.tmp 10)⟩,
  ⟨none, some 52, .load1 (.tmp 51)⟩,
  ⟨none, some 53, .bin .sub (.tmp 50) (.tmp 52)⟩,
  ⟨none, some 54, .bin .add (.tmp 53) (.const (.int .i64 1))⟩,
  ⟨none, some 55, .call (.func 40) [(.tmp 48), (.tmp 54)]⟩,
  ⟨none, some 56, .convI .u32 (.tmp 55)⟩,
  ⟨none, some 57, .fad 1 (.tmp 10)⟩,
  ⟨none, some 58, .load1 (.tmp 57)⟩,
  ⟨none, some 59, .bin .shl (.tmp 56) (.tmp 58)⟩,
  ⟨none, some 60, .bin .or (.tmp 43) (.tmp 59)⟩,
  ⟨none, some 8, .mv (.tmp 60)⟩])))
 (.region [⟨none, some 61, .bin .add (.tmp 39) (.const (.int .i64 1))⟩,
  ⟨none, some 39, .mv (.tmp 61)⟩])))))))
 (.seq (.region [⟨none, some 62, .mv (.tmp 8)⟩,
  ⟨none, some 4, .mv (.tmp 62)⟩,
  ⟨none, some 5, .mv (.const (.bool true))⟩])
 .ret)))))),
 [.tmp 4, .tmp 5]⟩
theorem c_field_Put : compF P0 pf Go.Proofs.Tryz.f105 = some L_field_Put := by kernel_rfl
/-- undertow/show.parts -/
abbrev n_show_parts : Nat := 106
def L_show_parts : LFn := ⟨131, (.seq (.region [⟨none, some 1, .box (.tmp 0)⟩,
  ⟨none, some 2, .mv (.const (.slice none 0 0))⟩])
 (.seq (.region [⟨none, some 4, .fad 4 (.tmp 1)⟩,
  ⟨none, some 5, .load1 (.tmp 4)⟩,
  ⟨none, some 6, .call (.func 126) [(.tmp 5), (.const (.int .i64 10))]⟩,
  ⟨none, some 3, .mv (.tmp 6)⟩])
 (.seq (.seq (.region [⟨none, some 7, .fad 0 (.tmp 1)⟩,
  ⟨none, some 8, .load1 (.tmp 7)⟩,
  ⟨none, some 9, .call (.func 42) [(.tmp 8)]⟩])
 (.block 0 (.seq (.region [⟨none, some 11, .bin .eql (.tmp 9) (.const (.int .i64 1))⟩,
  ⟨none, some 10, .mv (.tmp 11)⟩])
 (.cond (.tmp 10) (.seq (.region [⟨none, some 12, .fad 1 (.tmp 1)⟩,
  ⟨none, some 13, .load1 (.tmp 12)⟩,
  ⟨none, some 14, .call (.func 127) [(.tmp 13)]⟩,
  ⟨none, some 15, .mv (.tmp 3)⟩,
  ⟨none, some 16, .row 1 2 (zeroRow [.string ⟨#[]⟩] 2) [(0, 1, (.tmp 14)), (1, 1, (.tmp 15))]⟩,
  ⟨none, some 2, .mv (.tmp 16)⟩])
 .ret) (.seq (.region [⟨none, some 18, .bin .eql (.tmp 9) (.const (.int .i64 2))⟩,
  ⟨none, some 17, .mv (.tmp 18)⟩])
 (.cond (.tmp 17) (.seq (.seq (.region [⟨none, some 19, .fad 0 (.tmp 1)⟩,
  ⟨none, some 20, .load1 (.tmp 19)⟩,
  ⟨none, some 21, .bin .eql (.tmp 20) (.const (.int .i64 3))⟩])
 (.cond (.tmp 21) (.seq (.region [⟨none, some 22, .fad 1 (.tmp 1)⟩,
  ⟨none, some 23, .load1 (.tmp 22)⟩,
  ⟨none, some 24, .call (.func 127) [(.tmp 23)]⟩,
  ⟨none, some 25, .mv (.tmp 3)⟩,
  ⟨none, some 26, .row 1 2 (zeroRow [.string ⟨#[]⟩] 2) [(0, 1, (.tmp 24)), (1, 1, (.tmp 25))]⟩,
  ⟨none, some 2, .mv (.tmp 26)⟩])
 .ret) .skip))
 (.seq (.region [⟨none, some 27, .fad 1 (.tmp 1)⟩,
  ⟨none, some 28, .load1 (.tmp 27)⟩,
  ⟨none, some 29, .call (.func 127) [(.tmp 28)]⟩,
  ⟨none, some 30, .fad 2 (.tmp 1)⟩,
  ⟨none, some 31, .load1 (.tmp 30)⟩,
  ⟨none, some 32, .call (.func 127) [(.tmp 31)]⟩,
  ⟨none, some 33, .mv (.tmp 3)⟩,
  ⟨none, some 34, .row 1 3 (zeroRow [.string ⟨#[]⟩] 3) [(0, 1, (.tmp 29)), (1, 1, (.tmp 32)), (2, 1, (.tmp 33))]⟩,
  ⟨none, some 2, .mv (.tmp 34)⟩])
 .ret)) (.seq (.region [⟨none, some 36, .bin .eql (.tmp 9) (.const (.int .i64 6))⟩,
  ⟨none, some 35, .mv (.tmp 36)⟩])
 (.cond (.tmp 35) (.seq (.region [⟨none, some 37, .fad 1 (.tmp 1)⟩,
  ⟨none, some 38, .load1 (.tmp 37)⟩,
  ⟨none, some 39, .call (.func 127) [(.tmp 38)]⟩,
  ⟨none, some 40, .fad 2 (.tmp 1)⟩,
  ⟨none, some 41, .load1 (.tmp 40)⟩,
  ⟨none, some 42, .call (.func 127) [(.tmp 41)]⟩,
  ⟨none, some 43, .mv (.tmp 3)⟩,
  ⟨none, some 44, .row 1 3 (zeroRow [.string ⟨#[]⟩] 3) [(0, 1, (.tmp 39)), (1, 1, (.tmp 42)), (2, 1, (.tmp 43))]⟩,
  ⟨none, some 2, .mv (.tmp 44)⟩])
 .ret) (.seq (.region [⟨none, some 46, .bin .eql (.tmp 9) (.const (.int .i64 3))⟩,
  ⟨none, some 45, .mv (.tmp 46)⟩])
 (.cond (.tmp 45) (.seq (.region [⟨none, some 47, .fad 2 (.tmp 1)⟩,
  ⟨none, some 48, .load1 (.tmp 47)⟩,
  ⟨none, some 49, .call (.func 127) [(.tmp 48)]⟩,
  ⟨none, some 50, .fad 3 (.tmp 1)⟩,
  ⟨none, some 51, .load1 (.tmp 50)⟩,
  ⟨none, some 52, .call (.func 127) [(.tmp 51)]⟩,
  ⟨none, some 53, .mv (.tmp 3)⟩,
  ⟨none, some 54, .row 1 3 (zeroRow [.string ⟨#[]⟩] 3) [(0, 1, (.tmp 49)), (1, 1, (.tmp 52)), (2, 1, (.tmp 53))]⟩,
  ⟨none, some 2, .mv (.tmp 54)⟩])
 .ret) (.seq (.region [⟨none, some 56, .bin .eql (.tmp 9) (.const (.int .i64 4))⟩,
  ⟨none, some 55, .mv (.tmp 56)⟩])
 (.cond (.tmp 55) (.seq (.region [⟨none, some 57, .fad 1 (.tmp 1)⟩,
  ⟨none, some 58, .load1 (.tmp 57)⟩,
  ⟨none, some 59, .call (.func 127) [(.tmp 58)]⟩,
  ⟨none, some 60, .mv (.tmp 3)⟩,
  ⟨none, some 61, .bin .add (.tmp 60) (.const (.string ⟨#[40]⟩))⟩,
  ⟨none, some 62, .fad 2 (.tmp 1)⟩,
  ⟨none, some 63, .load1 (.tmp 62)⟩,
  ⟨none, some 64, .call (.func 127) [(.tmp 63)]⟩,
  ⟨none, some 65, .bin .add (.tmp 61) (.tmp 64)⟩,
  ⟨none, some 66, .bin .add (.tmp 65) (.const (.string ⟨#[41]⟩))⟩,
  ⟨none, some 67, .row 1 2 (zeroRow [.string ⟨#[]⟩] 2) [(0, 1, (.tmp 59)), (1, 1, (.tmp 66))]⟩,
  ⟨none, some 2, .mv (.tmp 67)⟩])
 .ret) (.seq (.region [⟨none, some 69, .bin .eql (.tmp 9) (.const (.int .i64 5))⟩,
  ⟨none, some 68, .mv (.tmp 69)⟩])
 (.cond (.tmp 68) (.seq (.region [⟨none, some 70, .fad 3 (.tmp 1)⟩,
  ⟨none, some 71, .load1 (.tmp 70)⟩,
  ⟨none, some 72, .call (.func 127) [(.tmp 71)]⟩,
  ⟨none, some 73, .mv (.tmp 3)⟩,
  ⟨none, some 74, .bin .add (.tmp 73) (.const (.string ⟨#[40]⟩))⟩,
  ⟨none, some 75, .fad 2 (.tmp 1)⟩,
  ⟨none, some 76, .load1 (.tmp 75)⟩,
  ⟨none, some 77, .call (.func 127) [(.tmp 76)]⟩,
  ⟨none, some 78, .bin .add (.tmp 74) (.tmp 77)⟩,
  ⟨none, some 79, .bin .add (.tmp 78) (.const (.string ⟨#[41]⟩))⟩,
  ⟨none, some 80, .row 1 2 (zeroRow [.string ⟨#[]⟩] 2) [(0, 1, (.tmp 72)), (1, 1, (.tmp 79))]⟩,
  ⟨none, some 2, .mv (.tmp 80)⟩])
 .ret) (.seq (.region [⟨none, some 82, .bin .eql (.tmp 9) (.const (.int .i64 7))⟩,
  ⟨none, some 81, .mv (.tmp 82)⟩])
 (.cond (.tmp 81) (.seq (.region [⟨none, some 83, .fad 1 (.tmp 1)⟩,
  ⟨none, some 84, .load1 (.tmp 83)⟩,
  ⟨none, some 85, .call (.func 127) [(.tmp 84)]⟩,
  ⟨none, some 86, .fad 2 (.tmp 1)⟩,
  ⟨none, some 87, .load1 (.tmp 86)⟩,
  ⟨none, some 88, .call (.func 127) [(.tmp 87)]⟩,
  ⟨none, some 89, .fad 3 (.tmp 1)⟩,
  ⟨none, some 90, .load1 (.tmp 89)⟩,
  ⟨none, some 91, .call (.func 127) [(.tmp 90)]⟩,
  ⟨none, some 92, .row 1 3 (zeroRow [.string ⟨#[]⟩] 3) [(0, 1, (.tmp 85)), (1, 1, (.tmp 88)), (2, 1, (.tmp 91))]⟩,
  ⟨none, some 2, .mv (.tmp 92)⟩])
 .ret) (.seq (.region [⟨none, some 94, .bin .eql (.tmp 9) (.const (.int .i64 8))⟩,
  ⟨none, some 93, .mv (.tmp 94)⟩])
 (.cond (.tmp 93) (.seq (.region [⟨none, some 95, .fad 0 (.tmp 1)⟩,
  ⟨none, some 96, .load1 (.tmp 95)⟩,
  ⟨none, some 97, .bin .eql (.tmp 96) (.const (.int .i64 50))⟩])
 (.cond (.tmp 97) (.seq (.region [⟨none, some 98, .fad 7 (.tmp 1)⟩,
  ⟨none, some 99, .load1 (.tmp 98)⟩,
  ⟨none, some 100, .call (.func 128) [(.tmp 99)]⟩,
  ⟨none, some 101, .fad 8 (.tmp 1)⟩,
  ⟨none, some 102, .load1 (.tmp 101)⟩,
  ⟨none, some 103, .call (.func 128) [(.tmp 102)]⟩,
  ⟨none, some 104, .row 1 2 (zeroRow [.string ⟨#[]⟩] 2) [(0, 1, (.tmp 100)), (1, 1, (.tmp 103))]⟩,
  ⟨none, some 2, .mv (.tmp 104)⟩])
 .ret) .skip)) (.seq (.region [⟨none, some 106, .bin .eql (.tmp 9) (.const (.int .i64 10))⟩,
  ⟨none, some 105, .mv (.tmp 106)⟩])
 (.cond (.tmp 105) (.seq (.region [⟨none, some 107, .fad 1 (.tmp 1)⟩,
  ⟨none, some 108, .load1 (.tmp 107)⟩,
  ⟨none, some 109, .call (.func 127) [(.tmp 108)]⟩,
  ⟨none, some 110, .fad 2 (.tmp 1)⟩,
  ⟨none, some 111, .load1 (.tmp 110)⟩,
  ⟨none, some 112, .call (.func 127) [(.tmp 111)]⟩,
  ⟨none, some 113, .bin .add (.const (.string ⟨#[40]⟩)) (.tmp 112)⟩,
  ⟨none, some 114, .bin .add (.tmp 113) (.const (.string ⟨#[41]⟩))⟩,
  ⟨none, some 115, .row 1 2 (zeroRow [.string ⟨#[]⟩] 2) [(0, 1, (.tmp 109)), (1, 1, (.tmp 114))]⟩,
  ⟨none, some 2, .mv (.tmp 115)⟩])
 .ret) (.seq (.seq (.region [⟨none, some 117, .bin .eql (.tmp 9) (.const (.int .i64 11))⟩,
  ⟨none, some 116, .mv (.tmp 117)⟩])
 (.cond (.tmp 116) .skip (.region [⟨none, some 118, .bin .eql (.tmp 9) (.const (.int .i64 12))⟩,
  ⟨none, some 116, .mv (.tmp 118)⟩])))
 (.cond (.tmp 116) (.seq (.region [⟨none, some 119, .fad 1 (.tmp 1)⟩,
  ⟨none, some 120, .load1 (.tmp 119)⟩,
  ⟨none, some 121, .call (.func 127) [(.tmp 120)]⟩,
  ⟨none, some 122, .fad 3 (.tmp 1)⟩,
  ⟨none, some 123, .load1 (.tmp 122)⟩,
  ⟨none, some 124, .call (.func 127) [(.tmp 123)]⟩,
  ⟨none, some 125, .fad 2 (.tmp 1)⟩,
  ⟨none, some 126, .load1 (.tmp 125)⟩,
  ⟨none, some 127, .call (.func 127) [(.tmp 126)]⟩,
  ⟨none, some 128, .bin .add (.const (.string ⟨#[40]⟩)) (.tmp 127)⟩,
  ⟨none, some 129, .bin .add (.tmp 128) (.const (.string ⟨#[41]⟩))⟩,
  ⟨none, some 130, .row 1 3 (zeroRow [.string ⟨#[]⟩] 3) [(0, 1, (.tmp 121)), (1, 1, (.tmp 124)), (2, 1, (.tmp 129))]⟩,
  ⟨none, some 2, .mv (.tmp 130)⟩])
 .ret) .skip))))))))))))))))))))))
 (.seq (.region [⟨none, some 2, .mv (.const (.slice none 0 0))⟩])
 .ret)))),
 [.tmp 2]⟩
theorem c_show_parts : compF P0 pf Go.Proofs.Tryz.f106 = some L_show_parts := by kernel_rfl
/-- undertow/show.name -/
abbrev n_show_name : Nat := 107
def L_show_name : LFn := ⟨27, (.seq (.region [⟨none, some 1, .box (.tmp 0)⟩,
  ⟨none, some 2, .mv (.const (.string ⟨#[]⟩))⟩])
 (.seq (.region [⟨none, some 4, .fad 0 (.tmp 1)⟩,
  ⟨none, some 5, .load1 (.tmp 4)⟩,
  ⟨none, some 6, .call (.func 129) [(.tmp 5)]⟩,
  ⟨none, some 3, .mv (.tmp 6)⟩])
 (.seq (.block 0 (.seq (.region [⟨none, some 8, .fad 5 (.tmp 1)⟩,
  ⟨none, some 9, .load1 (.tmp 8)⟩,
  ⟨none, some 10, .mv (.tmp 9)⟩,
  ⟨some (10, true), some 11, .fad 6 (.tmp 1)⟩,
  ⟨some (10, true), some 12, .load1 (.tmp 11)⟩,
  ⟨none, some 13, .pick (.tmp 10) (.tmp 12) (.const (.bool false))⟩,
  ⟨none, some 7, .mv (.tmp 13)⟩])
 (.cond (.tmp 7) (.seq (.region [⟨none, some 14, .mv (.tmp 3)⟩,
  ⟨none, some 15, .bin .add (.tmp 14) (.const (.string ⟨#[46, 97, 113, 114, 108]⟩))⟩,
  ⟨none, some 2, .mv (.tmp 15)⟩])
 .ret) (.seq (.region [⟨none, some 17, .fad 5 (.tmp 1)⟩,
  ⟨none, some 18, .load1 (.tmp 17)⟩,
  ⟨none, some 16, .mv (.tmp 18)⟩])
 (.cond (.tmp 16) (.seq (.region [⟨none, some 19, .mv (.tmp 3)⟩,
  ⟨none, some 20, .bin .add (.tmp 19) (.const (.string ⟨#[46, 97, 113]⟩))⟩,
  ⟨none, some 2, .mv (.tmp 20)⟩])
 .ret) (.seq (.region [⟨none, some 22, .fad 6 (.tmp 1)⟩,
  ⟨none, some 23, .load1 (.tmp 22)⟩,
  ⟨none, some 21, .mv (.tmp 23)⟩])
 (.cond (.tmp 21) (.seq (.region [⟨none, some 24, .mv (.tmp 3)⟩,
  ⟨none, some 25, .bin .add (.tmp 24) (.const (.string ⟨#[46, 114, 108]⟩))⟩,
  ⟨none, some 2, .mv (.tmp 25)⟩])
 .ret) .skip)))))))
 (.seq (.region [⟨none, some 26, .mv (.tmp 3)⟩,
  ⟨none, some 2, .mv (.tmp 26)⟩])
 .ret)))),
 [.tmp 2]⟩
theorem c_show_name : compF P0 pf Go.Proofs.Tryz.f107 = some L_show_name := by kernel_rfl
/-- internal/strconv.small -/
abbrev n_int_strconv_small : Nat := 109
def L_int_strconv_small : LFn := ⟨15, (.seq (.region [⟨none, some 2, .mv (.const (.string ⟨#[]⟩))⟩])
 (.seq (.seq (.region [⟨none, some 3, .mv (.tmp 0)⟩,
  ⟨none, some 4, .bin .lss (.tmp 3) (.const (.int .i64 10))⟩])
 (.cond (.tmp 4) (.seq (.region [⟨none, some 5, .mv (.tmp 0)⟩,
  ⟨none, some 6, .mv (.tmp 0)⟩,
  ⟨none, some 7, .bin .add (.tmp 6) (.const (.int .i64 1))⟩,
  ⟨none, some 8, .slcT (.const (.string ⟨#[48, 49, 50, 51, 52, 53, 54, 55, 56, 57, 97, 98, 99, 100, 101, 102, 103, 104, 105, 106, 107, 108, 109, 110, 111, 112, 113, 114, 115, 116, 117, 118, 119, 120, 121, 122]⟩)) (some (.tmp 5)) (some (.tmp 7))⟩,
  ⟨none, some 2, .mv (.tmp 8)⟩])
 .ret) .skip))
 (.seq (.region [⟨none, some 9, .mv (.tmp 0)⟩,
  ⟨none, some 10, .bin .mul (.tmp 9) (.const (.int .i64 2))⟩,
  ⟨none, some 11, .mv (.tmp 0)⟩,
  ⟨none, some 12, .bin .mul (.tmp 11) (.const (.int .i64 2))⟩,
  ⟨none, some 13, .bin .add (.tmp 12) (.const (.int .i64 2))⟩,
  ⟨none, some 14, .slcT (.const (.string ⟨#[48, 48, 48, 49, 48, 50, 48, 51, 48, 52, 48, 53, 48, 54, 48, 55, 48, 56, 48, 57, 49, 48, 49, 49, 49, 50, 49, 51, 49, 52, 49, 53, 49, 54, 49, 55, 49, 56, 49, 57, 50, 48, 50, 49, 50, 50, 50, 51, 50, 52, 50, 53, 50, 54, 50, 55, 50, 56, 50, 57, 51, 48, 51, 49, 51, 50, 51, 51, 51, 52, 51, 53, 51, 54, 51, 55, 51, 56, 51, 57, 52, 48, 52, 49, 52, 50, 52, 51, 52, 52, 52, 53, 52, 54, 52, 55, 52, 56, 52, 57, 53, 48, 53, 49, 53, 50, 53, 51, 53, 52, 53, 53, 53, 54, 53, 55, 53, 56, 53, 57, 54, 48, 54, 49, 54, 50, 54, 51, 54, 52, 54, 53, 54, 54, 54, 55, 54, 56, 54, 57, 55, 48, 55, 49, 55, 50, 55, 51, 55, 52, 55, 53, 55, 54, 55, 55, 55, 56, 55, 57, 56, 48, 56, 49, 56, 50, 56, 51, 56, 52, 56, 53, 56, 54, 56, 55, 56, 56, 56, 57, 57, 48, 57, 49, 57, 50, 57, 51, 57, 52, 57, 53, 57, 54, 57, 55, 57, 56, 57, 57]⟩)) (some (.tmp 10)) (some (.tmp 13))⟩,
  ⟨none, some 2, .mv (.tmp 14)⟩])
 .ret))),
 [.tmp 2]⟩
theorem c_int_strconv_small : compF P0 pf Go.Proofs.Tryz.f109 = some L_int_strconv_small := by kernel_rfl
/-- internal/strconv.formatBase10 -/
abbrev n_int_strconv_formatBase10 : Nat := 111
def L_int_strconv_formatBase10 : LFn := ⟨167, (.seq (.region [⟨none, some 17, .mv (.tmp 0)⟩,
  ⟨none, some 18, .lenS (.tmp 17)⟩,
  ⟨none, some 4, .mv (.tmp 18)⟩])
 (.seq (.block 0 (.loop (.seq (.seq (.region [⟨none, some 19, .mv (.tmp 4)⟩,
  ⟨none, some 20, .bin .geq (.tmp 19) (.const (.int .i64 8))⟩])
 (.cond (.tmp 20) .skip (.exit 0)))
 (.block 1 (.seq (.region [⟨none, some 21, .mv (.tmp 1)⟩,
  ⟨none, some 22, .bin .rem (.tmp 21) (.const (.int .u64 100000000))⟩,
  ⟨none, some 23, .convI .u32 (.tmp 22)⟩,
  ⟨none, some 5, .mv (.tmp 23)⟩])
 (.seq (.region [⟨none, some 24, .mv (.tmp 1)⟩,
  ⟨none, some 25, .bin .quo (.tmp 24) (.const (.int .u64 100000000))⟩,
  ⟨none, some 1, .mv (.tmp 25)⟩])
 (.seq (.region [⟨none, some 26, .mv (.tmp 5)⟩,
  ⟨none, some 27, .bin .quo (.tmp 26) (.const (.int .u32 10000))⟩,
  ⟨none, some 28, .mv (.tmp 5)⟩,
  ⟨none, some 29, .bin .rem (.tmp 28) (.const (.int .u32 10000))⟩,
  ⟨none, some 6, .mv (.tmp 27)⟩,
  ⟨none, some 7, .mv (.tmp 29)⟩])
 (.seq (.region [⟨none, some 30, .mv (.tmp 7)⟩,
  ⟨none, some 31, .bin .quo (.tmp 30) (.const (.int .u32 100))⟩,
  ⟨none, some 32, .bin .mul (.tmp 31) (.const (.int .u32 2))⟩,
  ⟨none, some 33, .mv (.tmp 7)⟩,
  ⟨none, some 34, .bin .rem (.tmp 33) (.const (.int .u32 100))⟩,
  ⟨none, some 35, .bin .mul (.tmp 34) (.const (.int .u32 2))⟩,
  ⟨none, some 8, .mv (.tmp 32)⟩,
  ⟨none, some 9, .mv (.tmp 35)⟩])
 (.seq (.region [⟨none, some 36, .mv (.tmp 6)⟩,
  ⟨none, some 37, .bin .quo (.tmp 36) (.const (.int .u32 100))⟩,
  ⟨none, some 38, .bin .mul (.tmp 37) (.const (.int .u32 2))⟩,
  ⟨none, some 39, .mv (.tmp 6)⟩,
  ⟨none, some 40, .bin .rem (.tmp 39) (.const (.int .u32 100))⟩,
  ⟨none, some 41, .bin .mul (.tmp 40) (.const (.int .u32 2))⟩,
  ⟨none, some 10, .mv (.tmp 38)⟩,
  ⟨none, some 11, .mv (.tmp 41)⟩])
 (.seq (.region [⟨none, some 42, .mv (.tmp 0)⟩,
  ⟨none, some 43, .mv (.tmp 4)⟩,
  ⟨none, some 44, .bin .sub (.tmp 43) (.const (.int .i64 1))⟩,
  ⟨none, some 45, .mv (.tmp 0)⟩,
  ⟨none, some 46, .mv (.tmp 4)⟩,
  ⟨none, some 47, .bin .sub (.tmp 46) (.const (.int .i64 2))⟩,
  ⟨none, some 48, .mv (.tmp 9)⟩,
  ⟨none, some 49, .bin .add (.tmp 48) (.const (.int .u32 1))⟩,
  ⟨none, some 50, .ixS (.const (.string ⟨#[48, 48, 48, 49, 48, 50, 48, 51, 48, 52, 48, 53, 48, 54, 48, 55, 48, 56, 48, 57, 49, 48, 49, 49, 49, 50, 49, 51, 49, 52, 49, 53, 49, 54, 49, 55, 49, 56, 49, 57, 50, 48, 50, 49, 50, 50, 50, 51, 50, 52, 50, 53, 50, 54, 50, 55, 50, 56, 50, 57, 51, 48, 51, 49, 51, 50, 51, 51, 51, 52, 51, 53, 51, 54, 51, 55, 51, 56, 51, 57, 52, 48, 52, 49, 52, 50, 52, 51, 52, 52, 52, 53, 52, 54, 52, 55, 52, 56, 52, 57, 53, 48, 53, 49, 53, 50, 53, 51, 53, 52, 53, 53, 53, 54, 53, 55, 53, 56, 53, 57, 54, 48, 54, 49, 54, 50, 54, 51, 54, 52, 54, 53, 54, 54, 54, 55, 54, 56, 54, 57, 55, 48, 55, 49, 55, 50, 55, 51, 55, 52, 55, 53, 55, 54, 55, 55, 55, 56, 55, 57, 56, 48, 56, 49, 56, 50, 56, 51, 56, 52, 56, 53, 56, 54, 56, 55, 56, 56, 56, 57, 57, 48, 57, 49, 57, 50, 57, 51, 57, 52, 57, 53, 57, 54, 57, 55, 57, 56, 57, 57]⟩)) (.tmp 49)⟩,
  ⟨none, some 51, .mv (.tmp 9)⟩,
  ⟨none, some 52, .ixS (.const (.string ⟨#[48, 48, 48, 49, 48, 50, 48, 51, 48, 52, 48, 53, 48, 54, 48, 55, 48, 56, 48, 57, 49, 48, 49, 49, 49, 50, 49, 51, 49, 52, 49, 53, 49, 54, 49, 55, 49, 56, 49, 57, 50, 48, 50, 49, 50, 50, 50, 51, 50, 52, 50, 53, 50, 54, 50, 55, 50, 56, 50, 57, 51, 48, 51, 49, 51, 50, 51, 51, 51, 52, 51, 53, 51, 54, 51, 55, 51, 56, 51, 57, 52, 48, 52, 49, 52, 50, 52, 51, 52, 52, 52, 53, 52, 54, 52, 55, 52, 56, 52, 57, 53, 48, 53, 49, 53, 50, 53, 51, 53, 52, 53, 53, 53, 54, 53, 55, 53, 56, 53, 57, 54, 48, 54, 49, 54, 50, 54, 51, 54, 52, 54, 53, 54, 54, 54, 55, 54, 56, 54, 57, 55, 48, 55, 49, 55, 50, 55, 51, 55, 52, 55, 53, 55, 54, 55, 55, 55, 56, 55, 57, 56, 48, 56, 49, 56, 50, 56, 51, 56, 52, 56, 53, 56, 54, 56, 55, 56, 56, 56, 57, 57, 48, 57, 49, 57, 50, 57, 51, 57, 52, 57, 53, 57, 54, 57, 55, 57, 56, 57, 57]⟩)) (.tmp 51)⟩,
  ⟨none, some 53, .iadS 1 (.tmp 42) (.tmp 44)⟩,
  ⟨none, none, .store 1 (.tmp 53) (.tmp 50)⟩,
  ⟨none, some 54, .iadS 1 (.tmp 45) (.tmp 47)⟩,
  ⟨none, none, .store 1 (.tmp 54) (.tmp 52)⟩])
 (.seq (.region [⟨none, some 55, .mv (.tmp 0)⟩,
  ⟨none, some 56, .mv (.tmp 4)⟩,
  ⟨none, some 57, .bin .sub (.tmp 56) (.const (.int .i64 3))⟩,
  ⟨none, some 58, .mv (.tmp 0)⟩,
  ⟨none, some 59, .mv (.tmp 4)⟩,
  ⟨none, some 60, .bin .sub (.tmp 59) (.const (.int .i64 4))⟩,
  ⟨none, some 61, .mv (.tmp 8)⟩,
  ⟨none, some 62, .bin .add (.tmp 61) (.const (.int .u32 1))⟩,
  ⟨none, some 63, .ixS (.const (.string ⟨#[48, 48, 48, 49, 48, 50, 48, 51, 48, 52, 48, 53, 48, 54, 48, 55, 48, 56, 48, 57, 49, 48, 49, 49, 49, 50, 49, 51, 49, 52, 49, 53, 49, 54, 49, 55, 49, 56, 49, 57, 50, 48, 50, 49, 50, 50, 50, 51, 50, 52, 50, 53, 50, 54, 50, 55, 50, 56, 50, 57, 51, 48, 51, 49, 51, 50, 51, 51, 51, 52, 51, 53, 51, 54, 51, 55, 51, 56, 51, 57, 52, 48, 52, 49, 52, 50, 52, 51, 52, 52, 52, 53, 52, 54, 52, 55, 52, 56, 52, 57, 53, 48, 53, 49, 53, 50, 53, 51, 53, 52, 53, 53, 53, 54, 53, 55, 53, 56, 53, 57, 54, 48, 54, 49, 54, 50, 54, 51, 54, 52, 54, 53, 54, 54, 54, 55, 54, 56, 54, 57, 55, 48, 55, 49, 55, 50, 55, 51, 55, 52, 55, 53, 55, 54, 55, 55, 55, 56, 55, 57, 56, 48, 56, 49, 56, 50, 56, 51, 56, 52, 56, 53, 56, 54, 56, 55, 56, 56, 56, 57, 57, 48, 57, 49, 57, 50, 57, 51, 57, 52, 57, 53, 57, 54, 57, 55, 57, 56, 57, 57]⟩)) (.tmp 62)⟩,
  ⟨none, some 64, .mv (.tmp 8)⟩,
  ⟨none, some 65, .ixS (.const (.string ⟨#[48, 48, 48, 49, 48, 50, 48, 51, 48, 52, 48, 53, 48, 54, 48, 55, 48, 56, 48, 57, 49, 48, 49, 49, 49, 50, 49, 51, 49, 52, 49, 53, 49, 54, 49, 55, 49, 56, 49, 57, 50, 48, 50, 49, 50, 50, 50, 51, 50, 52, 50, 53, 50, 54, 50, 55, 50, 56, 50, 57, 51, 48, 51, 49, 51, 50, 51, 51, 51, 52, 51, 53, 51, 54, 51, 55, 51, 56, 51, 57, 52, 48, 52, 49, 52, 50, 52, 51, 52, 52, 52, 53, 52, 54, 52, 55, 52, 56, 52, 57, 53, 48, 53, 49, 53, 50, 53, 51, 53, 52, 53, 53, 53, 54, 53, 55, 53, 56, 53, 57, 54, 48, 54, 49, 54, 50, 54, 51, 54, 52, 54, 53, 54, 54, 54, 55, 54, 56, 54, 57, 55, 48, 55, 49, 55, 50, 55, 51, 55, 52, 55, 53, 55, 54, 55, 55, 55, 56, 55, 57, 56, 48, 56, 49, 56, 50, 56, 51, 56, 52, 56, 53, 56, 54, 56, 55, 56, 56, 56, 57, 57, 48, 57, 49, 57, 50, 57, 51, 57, 52, 57, 53, 57, 54, 57, 55, 57, 56, 57, 57]⟩)) (.tmp 64)⟩,
  ⟨none, some 66, .iadS 1 (.tmp 55) (.tmp 57)⟩,
  ⟨none, none, .store 1 (.tmp 66) (.tmp 63)⟩,
  ⟨none, some 67, .iadS 1 (.tmp 58) (.tmp 60)⟩,
  ⟨none, none, .store 1 (.tmp 67) (.tmp 65)⟩])
 (.seq (.region [⟨none, some 68, .mv (.tmp 0)⟩,
  ⟨none, some 69, .mv (.tmp 4)⟩,
  ⟨none, some 70, .bin .sub (.tmp 69) (.const (.int .i64 5))⟩,
  ⟨none, some 71, .mv (.tmp 0)⟩,
  ⟨none, some 72, .mv (.tmp 4)⟩,
  ⟨none, some 73, .bin .sub (.tmp 72) (.const (.int .i64 6))⟩,
  ⟨none, some 74, .mv (.tmp 11)⟩,
  ⟨none, some 75, .bin .add (.tmp 74) (.const (.int .u32 1))⟩,
  ⟨none, some 76, .ixS (.const (.string ⟨#[48, 48, 48, 49, 48, 50, 48, 51, 48, 52, 48, 53, 48, 54, 48, 55, 48, 56, 48, 57, 49, 48, 49, 49, 49, 50, 49, 51, 49, 52, 49, 53, 49, 54, 49, 55, 49, 56, 49, 57, 50, 48, 50, 49, 50, 50, 50, 51, 50, 52, 50, 53, 50, 54, 50, 55, 50, 56, 50, 57, 51, 48, 51, 49, 51, 50, 51, 51, 51, 52, 51, 53, 51, 54, 51, 55, 51, 56, 51, 57, 52, 48, 52, 49, 52, 50, 52, 51, 52, 52, 52, 53, 52, 54, 52, 55, 52, 56, 52, 57, 53, 48, 53, 49, 53, 50, 53, 51, 53, 52, 53, 53, 53, 54, 53, 55, 53, 56, 53, 57, 54, 48, 54, 49, 54, 50, 54, 51, 54, 52, 54, 53, 54, 54, 54, 55, 54, 56, 54, 57, 55, 48, 55, 49, 55, 50, 55, 51, 55, 52, 55, 53, 55, 54, 55, 55, 55, 56, 55, 57, 56, 48, 56, 49, 56, 50, 56, 51, 56, 52, 56, 53, 56, 54, 56, 55, 56, 56, 56, 57, 57, 48, 57, 49, 57, 50, 57, 51, 57, 52, 57, 53, 57, 54, 57, 55, 57, 56, 57, 57]⟩)) (.tmp 75)⟩,
  ⟨none, some 77, .mv (.tmp 11)⟩,
  ⟨none, some 78, .ixS (.const (.string ⟨#[48, 48, 48, 49, 48, 50, 48, 51, 48, 52, 48, 53, 48, 54, 48, 55, 48, 56, 48, 57, 49, 48, 49, 49, 49, 50, 49, 51, 49, 52, 49, 53, 49, 54, 49, 55, 49, 56, 49, 57, 50, 48, 50, 49, 50, 50, 50, 51, 50, 52, 50, 53, 50, 54, 50, 55, 50, 56, 50, 57, 51, 48, 51, 49, 51, 50, 51, 51, 51, 52, 51, 53, 51, 54, 51, 55, 51, 56, 51, 57, 52, 48, 52, 49, 52, 50, 52, 51, 52, 52, 52, 53, 52, 54, 52, 55, 52, 56, 52, 57, 53, 48, 53, 49, 53, 50, 53, 51, 53, 52, 53, 53, 53, 54, 53, 55, 53, 56, 53, 57, 54, 48, 54, 49, 54, 50, 54, 51, 54, 52, 54, 53, 54, 54, 54, 55, 54, 56, 54, 57, 55, 48, 55, 49, 55, 50, 55, 51, 55, 52, 55, 53, 55, 54, 55, 55, 55, 56, 55, 57, 56, 48, 56, 49, 56, 50, 56, 51, 56, 52, 56, 53, 56, 54, 56, 55, 56, 56, 56, 57, 57, 48, 57, 49, 57, 50, 57, 51, 57, 52, 57, 53, 57, 54, 57, 55, 57, 56, 57, 57]⟩)) (.tmp 77)⟩,
  ⟨none, some 79, .iadS 1 (.tmp 68) (.tmp 70)⟩,
  ⟨none, none, .store 1 (.tmp 79) (.tmp 76)⟩,
  ⟨none, some 80, .iadS 1 (.tmp 71) (.tmp 73)⟩,
  ⟨none, none, .store 1 (.tmp 80) (.tmp 78)⟩])
 (.seq (.region [⟨none, some 81, .mv (.tmp 0)⟩,
  ⟨none, some 82, .mv (.tmp 4)⟩,
  ⟨none, some 83, .bin .sub (.tmp 82) (.const (.int .i64 7))⟩,
  ⟨none, some 84, .mv (.tmp 0)⟩,
  ⟨none, some 85, .mv (.tmp 4)⟩,
  ⟨none, some 86, .bin .sub (.tmp 85) (.const (.int .i64 8))⟩,
  ⟨none, some 87, .mv (.tmp 10)⟩,
  ⟨none, some 88, .bin .add (.tmp 87) (.const (.int .u32 1))⟩,
  ⟨none, some 89, .ixS (.const (.string ⟨#[48, 48, 48, 49, 48, 50, 48, 51, 48, 52, 48, 53, 48, 54, 48, 55, 48, 56, 48, 57, 49, 48, 49, 49, 49, 50, 49, 51, 49, 52, 49, 53, 49, 54, 49, 55, 49, 56, 49, 57, 50, 48, 50, 49, 50, 50, 50, 51, 50, 52, 50, 53, 50, 54, 50, 55, 50, 56, 50, 57, 51, 48, 51, 49, 51, 50, 51, 51, 51, 52, 51, 53, 51, 54, 51, 55, 51, 56, 51, 57, 52, 48, 52, 49, 52, 50, 52, 51, 52, 52, 52, 53, 52, 54, 52, 55, 52, 56, 52, 57, 53, 48, 53, 49, 53, 50, 53, 51, 53, 52, 53, 53, 53, 54, 53, 55, 53, 56, 53, 57, 54, 48, 54, 49, 54, 50, 54, 51, 54, 52, 54, 53, 54, 54, 54, 55, 54, 56, 54, 57, 55, 48, 55, 49, 55, 50, 55, 51, 55, 52, 55, 53, 55, 54, 55, 55, 55, 56, 55, 57, 56, 48, 56, 49, 56, 50, 56, 51, 56, 52, 56, 53, 56, 54, 56, 55, 56, 56, 56, 57, 57, 48, 57, 49, 57, 50, 57, 51, 57, 52, 57, 53, 57, 54, 57, 55, 57, 56, 57, 57]⟩)) (.tmp 88)⟩,
  ⟨none, some 90, .mv (.tmp 10)⟩,
  ⟨none, some 91, .ixS (.const (.string ⟨#[48, 48, 48, 49, 48, 50, 48, 51, 48, 52, 48, 53, 48, 54, 48, 55, 48, 56, 48, 57, 49, 48, 49, 49, 49, 50, 49, 51, 49, 52, 49, 53, 49, 54, 49, 55, 49, 56, 49, 57, 50, 48, 50, 49, 50, 50, 50, 51, 50, 52, 50, 53, 50, 54, 50, 55, 50, 56, 50, 57, 51, 48, 51, 49, 51, 50, 51, 51, 51, 52, 51, 53, 51, 54, 51, 55, 51, 56, 51, 57, 52, 48, 52, 49, 52, 50, 52, 51, 52, 52, 52, 53, 52, 54, 52, 55, 52, 56, 52, 57, 53, 48, 53, 49, 53, 50, 53, 51, 53, 52, 53, 53, 53, 54, 53, 55, 53, 56, 53, 57, 54, 48, 54, 49, 54, 50, 54, 51, 54, 52, 54, 53, 54, 54, 54, 55, 54, 56, 54, 57, 55, 48, 55, 49, 55, 50, 55, 51, 55, 52, 55, 53, 55, 54, 55, 55, 55, 56, 55, 57, 56, 48, 56, 49, 56, 50, 56, 51, 56, 52, 56, 53, 56, 54, 56, 55, 56, 56, 56, 57, 57, 48, 57, 49, 57, 50, 57, 51, 57, 52, 57, 53, 57, 54, 57, 55, 57, 56, 57, 57]⟩)) (.tmp 90)⟩,
  ⟨none, some 92, .iadS 1 (.tmp 81) (.tmp 83)⟩,
  ⟨none, none, .store 1 (.tmp 92) (.tmp 89)⟩,
  ⟨none, some 93, .iadS 1 (.tmp 84) (.tmp 86)⟩,
  ⟨none, none, .store 1 (.tmp 93) (.tmp 91)⟩])
 (.region [⟨none, some 94, .mv (.tmp 4)⟩,
  ⟨none, some 95, .bin .sub (.tmp 94) (.const (.int .i64 8))⟩,
  ⟨none, some 4, .mv (.tmp 95)⟩]))))))))))))))
 (.seq (.region [⟨none, some 96, .mv (.tmp 1)⟩,
  ⟨none, some 97, .convI .u32 (.tmp 96)⟩,
  ⟨none, some 12, .mv (.tmp 97)⟩])
 (.seq (.seq (.region [⟨none, some 98, .mv (.tmp 4)⟩,
  ⟨none, some 99, .bin .geq (.tmp 98) (.const (.int .i64 4))⟩])
 (.cond (.tmp 99) (.seq (.region [⟨none, some 100, .mv (.tmp 12)⟩,
  ⟨none, some 101, .bin .rem (.tmp 100) (.const (.int .u32 10000))⟩,
  ⟨none, some 13, .mv (.tmp 101)⟩])
 (.seq (.region [⟨none, some 102, .mv (.tmp 12)⟩,
  ⟨none, some 103, .bin .quo (.tmp 102) (.const (.int .u32 10000))⟩,
  ⟨none, some 12, .mv (.tmp 103)⟩])
 (.seq (.region [⟨none, some 104, .mv (.tmp 13)⟩,
  ⟨none, some 105, .bin .quo (.tmp 104) (.const (.int .u32 100))⟩,
  ⟨none, some 106, .bin .mul (.tmp 105) (.const (.int .u32 2))⟩,
  ⟨none, some 107, .mv (.tmp 13)⟩,
  ⟨none, some 108, .bin .rem (.tmp 107) (.const (.int .u32 100))⟩,
  ⟨none, some 109, .bin .mul (.tmp 108) (.const (.int .u32 2))⟩,
  ⟨none, some 14, .mv (.tmp 106)⟩,
  ⟨none, some 15, .mv (.tmp 109)⟩])
 (.seq (.region [⟨none, some 110, .mv (.tmp 0)⟩,
  ⟨none, some 111, .mv (.tmp 4)⟩,
  ⟨none, some 112, .bin .sub (.tmp 111) (.const (.int .i64 1))⟩,
  ⟨none, some 113, .mv (.tmp 0)⟩,
  ⟨none, some 114, .mv (.tmp 4)⟩,
  ⟨none, some 115, .bin .sub (.tmp 114) (.const (.int .i64 2))⟩,
  ⟨none, some 116, .mv (.tmp 15)⟩,
  ⟨none, some 117, .bin .add (.tmp 116) (.const (.int .u32 1))⟩,
  ⟨none, some 118, .ixS (.const (.string ⟨#[48, 48, 48, 49, 48, 50, 48, 51, 48, 52, 48, 53, 48, 54, 48, 55, 48, 56, 48, 57, 49, 48, 49, 49, 49, 50, 49, 51, 49, 52, 49, 53, 49, 54, 49, 55, 49, 56, 49, 57, 50, 48, 50, 49, 50, 50, 50, 51, 50, 52, 50, 53, 50, 54, 50, 55, 50, 56, 50, 57, 51, 48, 51, 49, 51, 50, 51, 51, 51, 52, 51, 53, 51, 54, 51, 55, 51, 56, 51, 57, 52, 48, 52, 49, 52, 50, 52, 51, 52, 52, 52, 53, 52, 54, 52, 55, 52, 56, 52, 57, 53, 48, 53, 49, 53, 50, 53, 51, 53, 52, 53, 53, 53, 54, 53, 55, 53, 56, 53, 57, 54, 48, 54, 49, 54, 50, 54, 51, 54, 52, 54, 53, 54, 54, 54, 55, 54, 56, 54, 57, 55, 48, 55, 49, 55, 50, 55, 51, 55, 52, 55, 53, 55, 54, 55, 55, 55, 56, 55, 57, 56, 48, 56, 49, 56, 50, 56, 51, 56, 52, 56, 53, 56, 54, 56, 55, 56, 56, 56, 57, 57, 48, 57, 49, 57, 50, 57, 51, 57, 52, 57, 53, 57, 54, 57, 55, 57, 56, 57, 57]⟩)) (.tmp 117)⟩,
  ⟨none, some 119, .mv (.tmp 15)⟩,
  ⟨none, some 120, .ixS (.const (.string ⟨#[48, 48, 48, 49, 48, 50, 48, 51, 48, 52, 48, 53, 48, 54, 48, 55, 48, 56, 48, 57, 49, 48, 49, 49, 49, 50, 49, 51, 49, 52, 49, 53, 49, 54, 49, 55, 49, 56, 49, 57, 50, 48, 50, 49, 50, 50, 50, 51, 50, 52, 50, 53, 50, 54, 50, 55, 50, 56, 50, 57, 51, 48, 51, 49, 51, 50, 51, 51, 51, 52, 51, 53, 51, 54, 51, 55, 51, 56, 51, 57, 52, 48, 52, 49, 52, 50, 52, 51, 52, 52, 52, 53, 52, 54, 52, 55, 52, 56, 52, 57, 53, 48, 53, 49, 53, 50, 53, 51, 53, 52, 53, 53, 53, 54, 53, 55, 53, 56, 53, 57, 54, 48, 54, 49, 54, 50, 54, 51, 54, 52, 54, 53, 54, 54, 54, 55, 54, 56, 54, 57, 55, 48, 55, 49, 55, 50, 55, 51, 55, 52, 55, 53, 55, 54, 55, 55, 55, 56, 55, 57, 56, 48, 56, 49, 56, 50, 56, 51, 56, 52, 56, 53, 56, 54, 56, 55, 56, 56, 56, 57, 57, 48, 57, 49, 57, 50, 57, 51, 57, 52, 57, 53, 57, 54, 57, 55, 57, 56, 57, 57]⟩)) (.tmp 119)⟩,
  ⟨none, some 121, .iadS 1 (.tmp 110) (.tmp 112)⟩,
  ⟨none, none, .store 1 (.tmp 121) (.tmp 118)⟩,
  ⟨none, some 122, .iadS 1 (.tmp 113) (.tmp 115)⟩,
  ⟨none, none, .store 1 (.tmp 122) (.tmp 120)⟩])
 (.seq (.region [⟨none, some 123, .mv (.tmp 0)⟩,
  ⟨none, some 124, .mv (.tmp 4)⟩,
  ⟨none, some 125, .bin .sub (.tmp 124) (.const (.int .i64 3))⟩,
  ⟨none, some 126, .mv (.tmp 0)⟩,
  ⟨none, some 127, .mv (.tmp 4)⟩,
  ⟨none, some 128, .bin .sub (.tmp 127) (.const (.int .i64 4))⟩,
  ⟨none, some 129, .mv (.tmp 14)⟩,
  ⟨none, some 130, .bin .add (.tmp 129) (.const (.int .u32 1))⟩,
  ⟨none, some 131, .ixS (.const (.string ⟨#[48, 48, 48, 49, 48, 50, 48, 51, 48, 52, 48, 53, 48, 54, 48, 55, 48, 56, 48, 57, 49, 48, 49, 49, 49, 50, 49, 51, 49, 52, 49, 53, 49, 54, 49, 55, 49, 56, 49, 57, 50, 48, 50, 49, 50, 50, 50, 51, 50, 52, 50, 53, 50, 54, 50, 55, 50, 56, 50, 57, 51, 48, 51, 49, 51, 50, 51, 51, 51, 52, 51, 53, 51, 54, 51, 55, 51, 56, 51, 57, 52, 48, 52, 49, 52, 50, 52, 51, 52, 52, 52, 53, 52, 54, 52, 55, 52, 56, 52, 57, 53, 48, 53, 49, 53, 50, 53, 51, 53, 52, 53, 53, 53, 54, 53, 55, 53, 56, 53, 57, 54, 48, 54, 49, 54, 50, 54, 51, 54, 52, 54, 53, 54, 54, 54, 55, 54, 56, 54, 57, 55, 48, 55, 49, 55, 50, 55, 51, 55, 52, 55, 53, 55, 54, 55, 55, 55, 56, 55, 57, 56, 48, 56, 49, 56, 50, 56, 51, 56, 52, 56, 53, 56, 54, 56, 55, 56, 56, 56, 57, 57, 48, 57, 49, 57, 50, 57, 51, 57, 52, 57, 53, 57, 54, 57, 55, 57, 56, 57, 57]⟩)) (.tmp 130)⟩,
  ⟨none, some 132, .mv (.tmp 14)⟩,
  ⟨none, some 133, .ixS (.const (.string ⟨#[48, 48, 48, 49, 48, 50, 48, 51, 48, 52, 48, 53, 48, 54, 48, 55, 48, 56, 48, 57, 49, 48, 49, 49, 49, 50, 49, 51, 49, 52, 49, 53, 49, 54, 49, 55, 49, 56, 49, 57, 50, 48, 50, 49, 50, 50, 50, 51, 50, 52, 50, 53, 50, 54, 50, 55, 50, 56, 50, 57, 51, 48, 51, 49, 51, 50, 51, 51, 51, 52, 51, 53, 51, 54, 51, 55, 51, 56, 51, 57, 52, 48, 52, 49, 52, 50, 52, 51, 52, 52, 52, 53, 52, 54, 52, 55, 52, 56, 52, 57, 53, 48, 53, 49, 53, 50, 53, 51, 53, 52, 53, 53, 53, 54, 53, 55, 53, 56, 53, 57, 54, 48, 54, 49, 54, 50, 54, 51, 54, 52, 54, 53, 54, 54, 54, 55, 54, 56, 54, 57, 55, 48, 55, 49, 55, 50, 55, 51, 55, 52, 55, 53, 55, 54, 55, 55, 55, 56, 55, 57, 56, 48, 56, 49, 56, 50, 56, 51, 56, 52, 56, 53, 56, 54, 56, 55, 56, 56, 56, 57, 57, 48, 57, 49, 57, 50, 57, 51, 57, 52, 57, 53, 57, 54, 57, 55, 57, 56, 57, 57]⟩)) (.tmp 132)⟩,
  ⟨none, some 134, .iadS 1 (.tmp 123) (.tmp 125)⟩,
  ⟨none, none, .store 1 (.tmp 134) (.tmp 131)⟩,
  ⟨none, some 135, .iadS 1 (.tmp 126) (.tmp 128)⟩,
  ⟨none, none, .store 1 (.tmp 135) (.tmp 133)⟩])
 (.region [⟨none, some 136, .mv (.tmp 4)⟩,
  ⟨none, some 137, .bin .sub (.tmp 136) (.const (.int .i64 4))⟩,
  ⟨none, some 4, .mv (.tmp 137)⟩])))))) .skip))
 (.seq (.seq (.region [⟨none, some 138, .mv (.tmp 4)⟩,
  ⟨none, some 139, .bin .geq (.tmp 138) (.const (.int .i64 2))⟩])
 (.cond (.tmp 139) (.seq (.region [⟨none, some 140, .mv (.tmp 12)⟩,
  ⟨none, some 141, .bin .rem (.tmp 140) (.const (.int .u32 100))⟩,
  ⟨none, some 142, .bin .mul (.tmp 141) (.const (.int .u32 2))⟩,
  ⟨none, some 16, .mv (.tmp 142)⟩])
 (.seq (.region [⟨none, some 143, .mv (.tmp 12)⟩,
  ⟨none, some 144, .bin .quo (.tmp 143) (.const (.int .u32 100))⟩,
  ⟨none, some 12, .mv (.tmp 144)⟩])
 (.seq (.region [⟨none, some 145, .mv (.tmp 0)⟩,
  ⟨none, some 146, .mv (.tmp 4)⟩,
  ⟨none, some 147, .bin .sub (.tmp 146) (.const (.int .i64 1))⟩,
  ⟨none, some 148, .mv (.tmp 0)⟩,
  ⟨none, some 149, .mv (.tmp 4)⟩,
  ⟨none, some 150, .bin .sub (.tmp 149) (.const (.int .i64 2))⟩,
  ⟨none, some 151, .mv (.tmp 16)⟩,
  ⟨none, some 152, .bin .add (.tmp 151) (.const (.int .u32 1))⟩,
  ⟨none, some 153, .ixS (.const (.string ⟨#[48, 48, 48, 49, 48, 50, 48, 51, 48, 52, 48, 53, 48, 54, 48, 55, 48, 56, 48, 57, 49, 48, 49, 49, 49, 50, 49, 51, 49, 52, 49, 53, 49, 54, 49, 55, 49, 56, 49, 57, 50, 48, 50, 49, 50, 50, 50, 51, 50, 52, 50, 53, 50, 54, 50, 55, 50, 56, 50, 57, 51, 48, 51, 49, 51, 50, 51, 51, 51, 52, 51, 53, 51, 54, 51, 55, 51, 56, 51, 57, 52, 48, 52, 49, 52, 50, 52, 51, 52, 52, 52, 53, 52, 54, 52, 55, 52, 56, 52, 57, 53, 48, 53, 49, 53, 50, 53, 51, 53, 52, 53, 53, 53, 54, 53, 55, 53, 56, 53, 57, 54, 48, 54, 49, 54, 50, 54, 51, 54, 52, 54, 53, 54, 54, 54, 55, 54, 56, 54, 57, 55, 48, 55, 49, 55, 50, 55, 51, 55, 52, 55, 53, 55, 54, 55, 55, 55, 56, 55, 57, 56, 48, 56, 49, 56, 50, 56, 51, 56, 52, 56, 53, 56, 54, 56, 55, 56, 56, 56, 57, 57, 48, 57, 49, 57, 50, 57, 51, 57, 52, 57, 53, 57, 54, 57, 55, 57, 56, 57, 57]⟩)) (.tmp 152)⟩,
  ⟨none, some 154, .mv (.tmp 16)⟩,
  ⟨none, some 155, .ixS (.const (.string ⟨#[48, 48, 48, 49, 48, 50, 48, 51, 48, 52, 48, 53, 48, 54, 48, 55, 48, 56, 48, 57, 49, 48, 49, 49, 49, 50, 49, 51, 49, 52, 49, 53, 49, 54, 49, 55, 49, 56, 49, 57, 50, 48, 50, 49, 50, 50, 50, 51, 50, 52, 50, 53, 50, 54, 50, 55, 50, 56, 50, 57, 51, 48, 51, 49, 51, 50, 51, 51, 51, 52, 51, 53, 51, 54, 51, 55, 51, 56, 51, 57, 52, 48, 52, 49, 52, 50, 52, 51, 52, 52, 52, 53, 52, 54, 52, 55, 52, 56, 52, 57, 53, 48, 53, 49, 53, 50, 53, 51, 53, 52, 53, 53, 53, 54, 53, 55, 53, 56, 53, 57, 54, 48, 54, 49, 54, 50, 54, 51, 54, 52, 54, 53, 54, 54, 54, 55, 54, 56, 54, 57, 55, 48, 55, 49, 55, 50, 55, 51, 55, 52, 55, 53, 55, 54, 55, 55, 55, 56, 55, 57, 56, 48, 56, 49, 56, 50, 56, 51, 56, 52, 56, 53, 56, 54, 56, 55, 56, 56, 56, 57, 57, 48, 57, 49, 57, 50, 57, 51, 57, 52, 57, 53, 57, 54, 57, 55, 57, 56, 57, 57]⟩)) (.tmp 154)⟩,
  ⟨none, some 156, .iadS 1 (.tmp 145) (.tmp 147)⟩,
  ⟨none, none, .store 1 (.tmp 156) (.tmp 153)⟩,
  ⟨none, some 157, .iadS 1 (.tmp 148) (.tmp 150)⟩,
  ⟨none, none, .store 1 (.tmp 157) (.tmp 155)⟩])
 (.region [⟨none, some 158, .mv (.tmp 4)⟩,
  ⟨none, some 159, .bin .sub (.tmp 158) (.const (.int .i64 2))⟩,
  ⟨none, some 4, .mv (.tmp 159)⟩])))) .skip))
 (.seq (.region [⟨none, some 160, .mv (.tmp 4)⟩,
  ⟨none, some 161, .bin .gtr (.tmp 160) (.const (.int .i64 0))⟩])
 (.cond (.tmp 161) (.region [⟨none, some 162, .mv (.tmp 0)⟩,
  ⟨none, some 163, .mv (.tmp 12)⟩,
  ⟨none, some 164, .bin .add (.const (.int .u32 48)) (.tmp 163)⟩,
  ⟨none, some 165, .convI .u8 (.tmp 164)⟩,
  ⟨none, some 166, .iadS 1 (.tmp 162) (.const (.int .i64 0))⟩,
  ⟨none, none, .store 1 (.tmp 166) (.tmp 165)⟩]) .skip))))))),
 []⟩
theorem c_int_strconv_formatBase10 : compF P0 pf Go.Proofs.Tryz.f111 = some L_int_strconv_formatBase10 := by kernel_rfl
/-- undertow/undertowref04.Places -/
abbrev n_ref04_Places : Nat := 114
def L_ref04_Places : LFn := ⟨83, (.seq (.region [⟨none, some 2, .alloc [.int .i64 0, .int .i64 0, .int .i64 0, .int .i64 0, .int .i64 0, .int .i64 0, .int .i64 0, .int .i64 0, .int .i64 0, .int .i64 0, .int .i64 0, .int .i64 0, .int .i64 0, .int .i64 0, .int .i64 0, .int .i64 0, .int .i64 0, .int .i64 0, .int .i64 0, .int .i64 0, .int .i64 0, .int .i64 0, .int .i64 0, .int .i64 0, .int .i64 0, .int .i64 0, .int .i64 0, .int .i64 0, .int .i64 0, .int .i64 0, .int .i64 0, .int .i64 0]⟩])
 (.seq (.region [⟨none, some 3, .alloc [.int .i64 0, .int .i64 0, .int .i64 0, .int .i64 0, .int .i64 0, .int .i64 0, .int .i64 0, .int .i64 0, .int .i64 0, .int .i64 0, .int .i64 0, .int .i64 0, .int .i64 0, .int .i64 0, .int .i64 0, .int .i64 0, .int .i64 0, .int .i64 0, .int .i64 0, .int .i64 0, .int .i64 0, .int .i64 0, .int .i64 0, .int .i64 0, .int .i64 0, .int .i64 0, .int .i64 0, .int .i64 0, .int .i64 0, .int .i64 0, .int .i64 0, .int .i64 0]⟩])
 (.seq (.seq (.region [⟨none, some 4, .mv (.const (.int .i64 0))⟩])
 (.block 0 (.loop (.seq (.seq (.region [⟨none, some 6, .mv (.tmp 4)⟩,
  ⟨none, some 7, .bin .lss (.tmp 6) (.const (.int .i64 32))⟩])
 (.cond (.tmp 7) .skip (.exit 0)))
 (.seq (.block 1 (.seq (.region [⟨none, some 5, .mv (.const (.int .i64 (-1)))⟩])
 (.seq (.seq (.region [⟨none, some 10, .mv (.tmp 0)⟩])
 (.block 2 (.seq (.region [⟨none, some 12, .bin .eql (.tmp 10) (.const (.int .i64 1))⟩,
  ⟨none, some 11, .mv (.tmp 12)⟩])
 (.cond (.tmp 11) (.seq (.region [⟨none, some 13, .mv (.tmp 4)⟩,
  ⟨none, some 14, .bin .geq (.tmp 13) (.const (.int .i64 20))⟩])
 (.cond (.tmp 14) (.region [⟨none, some 15, .mv (.tmp 4)⟩,
  ⟨none, some 16, .bin .sub (.tmp 15) (.const (.int .i64 20))⟩,
  ⟨none, some 5, .mv (.tmp 16)⟩]) .skip)) (.seq (.region [⟨none, some 18, .bin .eql (.tmp 10) (.const (.int .i64 2))⟩,
  ⟨none, some 17, .mv (.tmp 18)⟩])
 (.cond (.tmp 17) (.seq (.seq (.region [⟨none, some 19, .mv (.tmp 4)⟩,
  ⟨none, some 20, .bin .geq (.tmp 19) (.const (.int .i64 25))⟩])
 (.cond (.tmp 20) (.region [⟨none, some 21, .mv (.tmp 4)⟩,
  ⟨none, some 22, .bin .sub (.tmp 21) (.const (.int .i64 20))⟩,
  ⟨none, some 5, .mv (.tmp 22)⟩]) .skip))
 (.seq (.region [⟨none, some 23, .mv (.tmp 4)⟩,
  ⟨none, some 24, .bin .geq (.tmp 23) (.const (.int .i64 7))⟩,
  ⟨none, some 25, .mv (.tmp 24)⟩,
  ⟨some (25, true), some 26, .mv (.tmp 4)⟩,
  ⟨some (25, true), some 27, .bin .leq (.tmp 26) (.const (.int .i64 11))⟩,
  ⟨none, some 28, .pick (.tmp 25) (.tmp 27) (.const (.bool false))⟩])
 (.cond (.tmp 28) (.region [⟨none, some 29, .mv (.tmp 4)⟩,
  ⟨none, some 30, .bin .sub (.tmp 29) (.const (.int .i64 7))⟩,
  ⟨none, some 5, .mv (.tmp 30)⟩]) .skip))) (.seq (.region [⟨none, some 32, .bin .eql (.tmp 10) (.const (.int .i64 3))⟩,
  ⟨none, some 31, .mv (.tmp 32)⟩])
 (.cond (.tmp 31) (.seq (.seq (.region [⟨none, some 33, .mv (.tmp 4)⟩,
  ⟨none, some 34, .bin .eql (.tmp 33) (.const (.int .i64 31))⟩])
 (.cond (.tmp 34) (.region [⟨none, some 5, .mv (.const (.int .i64 12))⟩]) .skip))
 (.seq (.seq (.region [⟨none, some 35, .mv (.tmp 4)⟩,
  ⟨none, some 36, .bin .eql (.tmp 35) (.const (.int .i64 7))⟩])
 (.cond (.tmp 36) (.region [⟨none, some 5, .mv (.const (.int .i64 11))⟩]) .skip))
 (.seq (.seq (.region [⟨none, some 37, .mv (.tmp 4)⟩,
  ⟨none, some 38, .bin .geq (.tmp 37) (.const (.int .i64 25))⟩,
  ⟨none, some 39, .mv (.tmp 38)⟩,
  ⟨some (39, true), some 40, .mv (.tmp 4)⟩,
  ⟨some (39, true), some 41, .bin .leq (.tmp 40) (.const (.int .i64 30))⟩,
  ⟨none, some 42, .pick (.tmp 39) (.tmp 41) (.const (.bool false))⟩])
 (.cond (.tmp 42) (.region [⟨none, some 43, .mv (.tmp 4)⟩,
  ⟨none, some 44, .bin .sub (.tmp 43) (.const (.int .i64 20))⟩,
  ⟨none, some 5, .mv (.tmp 44)⟩]) .skip))
 (.seq (.region [⟨none, some 45, .mv (.tmp 4)⟩,
  ⟨none, some 46, .bin .geq (.tmp 45) (.const (.int .i64 8))⟩,
  ⟨none, some 47, .mv (.tmp 46)⟩,
  ⟨some (47, true), some 48, .mv (.tmp 4)⟩,
  ⟨some (47, true), some 49, .bin .leq (.tmp 48) (.const (.int .i64 11))⟩,
  ⟨none, some 50, .pick (.tmp 47) (.tmp 49) (.const (.bool false))⟩])
 (.cond (.tmp 50) (.region [⟨none, some 51, .mv (.tmp 4)⟩,
  ⟨none, some 52, .bin .sub (.tmp 51) (.const (.int .i64 7))⟩,
  ⟨none, some 5, .mv (.tmp 52)⟩]) .skip))))) (.seq (.region [⟨none, some 54, .bin .eql (.tmp 10) (.const (.int .i64 4))⟩,
  ⟨none, some 53, .mv (.tmp 54)⟩])
 (.cond (.tmp 53) (.seq (.region [⟨none, some 55, .mv (.tmp 4)⟩,
  ⟨none, some 56, .bin .geq (.tmp 55) (.const (.int .i64 12))⟩])
 (.cond (.tmp 56) (.region [⟨none, some 57, .mv (.tmp 4)⟩,
  ⟨none, some 5, .mv (.tmp 57)⟩]) .skip)) (.seq (.region [⟨none, some 59, .bin .eql (.tmp 10) (.const (.int .i64 5))⟩,
  ⟨none, some 58, .mv (.tmp 59)⟩])
 (.cond (.tmp 58) (.seq (.seq (.region [⟨none, some 60, .mv (.tmp 4)⟩,
  ⟨none, some 61, .bin .eql (.tmp 60) (.const (.int .i64 31))⟩])
 (.cond (.tmp 61) (.region [⟨none, some 5, .mv (.const (.int .i64 20))⟩]) .skip))
 (.seq (.seq (.region [⟨none, some 62, .mv (.tmp 4)⟩,
  ⟨none, some 63, .bin .geq (.tmp 62) (.const (.int .i64 12))⟩,
  ⟨none, some 64, .mv (.tmp 63)⟩,
  ⟨some (64, true), some 65, .mv (.tmp 4)⟩,
  ⟨some (64, true), some 66, .bin .leq (.tmp 65) (.const (.int .i64 19))⟩,
  ⟨none, some 67, .pick (.tmp 64) (.tmp 66) (.const (.bool false))⟩])
 (.cond (.tmp 67) (.region [⟨none, some 68, .mv (.tmp 4)⟩,
  ⟨none, some 5, .mv (.tmp 68)⟩]) .skip))
 (.seq (.seq (.region [⟨none, some 69, .mv (.tmp 4)⟩,
  ⟨none, some 70, .bin .eql (.tmp 69) (.const (.int .i64 20))⟩])
 (.cond (.tmp 70) (.region [⟨none, some 5, .mv (.const (.int .i64 11))⟩]) .skip))
 (.seq (.region [⟨none, some 71, .mv (.tmp 4)⟩,
  ⟨none, some 72, .bin .geq (.tmp 71) (.const (.int .i64 21))⟩,
  ⟨none, some 73, .mv (.tmp 72)⟩,
  ⟨some (73, true), some 74, .mv (.tmp 4)⟩,
  ⟨some (73, true), some 75, .bin .leq (.tmp 74) (.const (.int .i64 30))⟩,
  ⟨none, some 76, .pick (.tmp 73) (.tmp 75) (.const (.bool false))⟩])
 (.cond (.tmp 76) (.region [⟨none, some 77, .mv (.tmp 4)⟩,
  ⟨none, some 78, .bin .sub (.tmp 77) (.const (.int .i64 20))⟩,
  ⟨none, some 5, .mv (.tmp 78)⟩]) .skip))))) .skip))))))))))))
 (.region [⟨none, some 79, .mv (.tmp 4)⟩,
  ⟨none, some 80, .mv (.tmp 5)⟩,
  ⟨none, some 81, .iadA 32 1 (.tmp 3) (.tmp 79)⟩,
  ⟨none, none, .store 1 (.tmp 81) (.tmp 80)⟩]))))
 (.region [⟨none, some 8, .mv (.tmp 4)⟩,
  ⟨none, some 9, .bin .add (.tmp 8) (.const (.int .i64 1))⟩,
  ⟨none, some 4, .mv (.tmp 9)⟩]))))))
 (.seq (.region [⟨none, some 82, .loadN 32 (.tmp 3)⟩,
  ⟨none, none, .store 32 (.tmp 2) (.tmp 82)⟩])
 .ret)))),
 [.cellN 2 32]⟩
theorem c_ref04_Places : compF P0 pf Go.Proofs.Tryz.f114 = some L_ref04_Places := by kernel_rfl
/-- strings.splitSeq -/
abbrev n_strings_splitSeq : Nat := 115
def L_strings_splitSeq : LFn := ⟨8, (.seq (.region [⟨none, some 3, .box (.tmp 0)⟩,
  ⟨none, some 4, .box (.tmp 1)⟩,
  ⟨none, some 5, .box (.tmp 2)⟩,
  ⟨none, some 6, .mv (.const (.nilFunc))⟩])
 (.seq (.region [⟨none, some 7, .mkf 138 [] [(.tmp 4), (.tmp 3), (.tmp 5)]⟩,
  ⟨none, some 6, .mv (.tmp 7)⟩])
 .ret)),
 [.tmp 6]⟩
theorem c_strings_splitSeq : compF P0 pf Go.Proofs.Tryz.f115 = some L_strings_splitSeq := by kernel_rfl
/-- strings.Trim -/
abbrev n_strings_Trim : Nat := 117
def L_strings_Trim : LFn := ⟨43, (.seq (.region [⟨none, some 4, .mv (.const (.string ⟨#[]⟩))⟩])
 (.seq (.seq (.region [⟨none, some 7, .mv (.tmp 0)⟩,
  ⟨none, some 8, .bin .eql (.tmp 7) (.const (.string ⟨#[]⟩))⟩,
  ⟨none, some 9, .mv (.tmp 8)⟩,
  ⟨some (9, false), some 10, .mv (.tmp 1)⟩,
  ⟨some (9, false), some 11, .bin .eql (.tmp 10) (.const (.string ⟨#[]⟩))⟩,
  ⟨none, some 12, .pick (.tmp 9) (.const (.bool true)) (.tmp 11)⟩])
 (.cond (.tmp 12) (.seq (.region [⟨none, some 13, .mv (.tmp 0)⟩,
  ⟨none, some 4, .mv (.tmp 13)⟩])
 .ret) .skip))
 (.seq (.seq (.region [⟨none, some 14, .mv (.tmp 1)⟩,
  ⟨none, some 15, .lenT (.tmp 14)⟩,
  ⟨none, some 16, .bin .eql (.tmp 15) (.const (.int .i64 1))⟩,
  ⟨none, some 17, .mv (.tmp 16)⟩,
  ⟨some (17, true), some 18, .mv (.tmp 1)⟩,
  ⟨some (17, true), some 19, .ixS (.tmp 18) (.const (.int .i64 0))⟩,
  ⟨some (17, true), some 20, .bin .lss (.tmp 19) (.const (.int .u8 128))⟩,
  ⟨none, some 21, .pick (.tmp 17) (.tmp 20) (.const (.bool false))⟩])
 (.cond (.tmp 21) (.seq (.region [⟨none, some 22, .mv (.tmp 0)⟩,
  ⟨none, some 23, .mv (.tmp 1)⟩,
  ⟨none, some 24, .ixS (.tmp 23) (.const (.int .i64 0))⟩,
  ⟨none, some 25, .call (.func 143) [(.tmp 22), (.tmp 24)]⟩,
  ⟨none, some 26, .mv (.tmp 1)⟩,
  ⟨none, some 27, .ixS (.tmp 26) (.const (.int .i64 0))⟩,
  ⟨none, some 28, .call (.func 142) [(.tmp 25), (.tmp 27)]⟩,
  ⟨none, some 4, .mv (.tmp 28)⟩])
 .ret) .skip))
 (.seq (.seq (.region [⟨none, some 30, .mv (.tmp 1)⟩,
  ⟨none, some 31, .call (.func 144) [(.tmp 30)]⟩,
  ⟨none, some 29, .mv (.tmp 31)⟩,
  ⟨none, some 32, .ext (.tmp 29) 0⟩,
  ⟨none, some 33, .ext (.tmp 29) 1⟩,
  ⟨none, some 5, .alloc [.bool false, .bool false, .bool false, .bool false, .bool false, .bool false, .bool false, .bool false, .bool false, .bool false, .bool false, .bool false, .bool false, .bool false, .bool false, .bool false, .bool false, .bool false, .bool false, .bool false, .bool false, .bool false, .bool false, .bool false, .bool false, .bool false, .bool false, .bool false, .bool false, .bool false, .bool false, .bool false, .bool false, .bool false, .bool false, .bool false, .bool false, .bool false, .bool false, .bool false, .bool false, .bool false, .bool false, .bool false, .bool false, .bool false, .bool false, .bool false, .bool false, .bool false, .bool false, .bool false, .bool false, .bool false, .bool false, .bool false, .bool false, .bool false, .bool false, .bool false, .bool false, .bool false, .bool false, .bool false, .bool false, .bool false, .bool false, .bool false, .bool false, .bool false, .bool false, .bool false, .bool false, .bool false, .bool false, .bool false, .bool false, .bool false, .bool false, .bool false, .bool false, .bool false, .bool false, .bool false, .bool false, .bool false, .bool false, .bool false, .bool false, .bool false, .bool false, .bool false, .bool false, .bool false, .bool false, .bool false, .bool false, .bool false, .bool false, .bool false, .bool false, .bool false, .bool false, .bool false, .bool false, .bool false, .bool false, .bool false, .bool false, .bool false, .bool false, .bool false, .bool false, .bool false, .bool false, .bool false, .bool false, .bool false, .bool false, .bool false, .bool false, .bool false, .bool false, .bool false, .bool false, .bool false, .bool false, .bool false, .bool false, .bool false, .bool false, .bool false, .bool false, .bool false, .bool false, .bool false, .bool false, .bool false, .bool false, .bool false, .bool false, .bool false, .bool false, .bool false, .bool false, .bool false, .bool false, .bool false, .bool false, .bool false, .bool false, .bool false, .bool false, .bool false, .bool false, .bool false, .bool false, .bool false, .bool false, .bool false, .bool false, .bool false, .bool false, .bool false, .bool false, .bool false, .bool false, .bool false, .bool false, .bool false, .bool false, .bool false, .bool false, .bool false, .bool false, .bool false, .bool false, .bool false, .bool false, .bool false, .bool false, .bool false, .bool false, .bool false, .bool false, .bool false, .bool false, .bool false, .bool false, .bool false, .bool false, .bool false, .bool false, .bool false, .bool false, .bool false, .bool false, .bool false, .bool false, .bool false, .bool false, .bool false, .bool false, .bool false, .bool false, .bool false, .bool false, .bool false, .bool false, .bool false, .bool false, .bool false, .bool false, .bool false, .bool false, .bool false, .bool false, .bool false, .bool false, .bool false, .bool false, .bool false, .bool false, .bool false, .bool false, .bool false, .bool false, .bool false, .bool false, .bool false, .bool false, .bool false, .bool false, .bool false, .bool false, .bool false, .bool false, .bool false, .bool false, .bool false, .bool false, .bool false, .bool false, .bool false, .bool false, .bool false, .bool false, .bool false, .bool false, .bool false, .bool false, .bool false, .bool false, .bool false, .bool false, .bool false]⟩,
  ⟨none, none, .store 256 (.tmp 5) (.tmp 32)⟩,
  ⟨none, some 6, .mv (.tmp 33)⟩])
 (.seq (.region [⟨none, some 34, .mv (.tmp 6)⟩])
 (.cond (.tmp 34) (.seq (.region [⟨none, some 35, .mv (.tmp 0)⟩,
  ⟨none, some 36, .call (.func 146) [(.tmp 35), (.tmp 5)]⟩,
  ⟨none, some 37, .call (.func 145) [(.tmp 36), (.tmp 5)]⟩,
  ⟨none, some 4, .mv (.tmp 37)⟩])
 .ret) .skip)))
 (.seq (.region [⟨none, some 38, .mv (.tmp 0)⟩,
  ⟨none, some 39, .mv (.tmp 1)⟩,
  ⟨none, some 40, .call (.func 148) [(.tmp 38), (.tmp 39)]⟩,
  ⟨none, some 41, .mv (.tmp 1)⟩,
  ⟨none, some 42, .call (.func 147) [(.tmp 40), (.tmp 41)]⟩,
  ⟨none, some 4, .mv (.tmp 42)⟩])
 .ret))))),
 [.tmp 4]⟩
theorem c_strings_Trim : compF P0 pf Go.Proofs.Tryz.f117 = some L_strings_Trim := by kernel_rfl
/-- strings.CutSuffix -/
abbrev n_strings_CutSuffix : Nat := 118
def L_strings_CutSuffix : LFn := ⟨11, (.seq (.region [⟨none, some 4, .mv (.const (.string ⟨#[]⟩))⟩,
  ⟨none, some 5, .mv (.const (.bool false))⟩])
 (.seq (.region [⟨none, some 6, .mv (.tmp 0)⟩,
  ⟨none, some 7, .mv (.tmp 1)⟩,
  ⟨none, some 8, .call (.func 149) [(.tmp 6), (.tmp 7)]⟩,
  ⟨none, some 9, .ext (.tmp 8) 0⟩,
  ⟨none, some 10, .ext (.tmp 8) 1⟩,
  ⟨none, some 4, .mv (.tmp 9)⟩,
  ⟨none, some 5, .mv (.tmp 10)⟩])
 .ret)),
 [.tmp 4, .tmp 5]⟩
theorem c_strings_CutSuffix : compF P0 pf Go.Proofs.Tryz.f118 = some L_strings_CutSuffix := by kernel_rfl
/-- undertow/asm.data -/
abbrev n_asm_data : Nat := 119
def L_asm_data : LFn := ⟨61, (.seq (.region [⟨none, some 4, .alloc [.string ⟨#[]⟩, .int .i64 0, .slice none 0 0, .int .i64 0, .int .i64 0, .int .i64 0, .int .i64 0, .int .i64 0, .bool false, .bool false, .int .i64 0, .int .i64 0, .string ⟨#[]⟩, .bool false]⟩,
  ⟨none, some 5, .mv (.const (.bool false))⟩])
 (.seq (.region [⟨none, some 12, .mv (.tmp 1)⟩,
  ⟨none, some 13, .call (.func 150) [(.tmp 12)]⟩,
  ⟨none, some 11, .mv (.tmp 13)⟩,
  ⟨none, some 14, .ext (.tmp 11) 0⟩,
  ⟨none, some 15, .ext (.tmp 11) 1⟩,
  ⟨none, some 6, .mv (.tmp 14)⟩,
  ⟨none, some 7, .mv (.tmp 15)⟩])
 (.seq (.seq (.region [⟨none, some 16, .mv (.tmp 7)⟩,
  ⟨none, some 17, .un .not (.tmp 16)⟩])
 (.cond (.tmp 17) (.seq (.region [⟨none, some 18, .build [.string ⟨#[]⟩, .int .i64 0, .slice none 0 0, .int .i64 0, .int .i64 0, .int .i64 0, .int .i64 0, .int .i64 0, .bool false, .bool false, .int .i64 0, .int .i64 0, .string ⟨#[]⟩, .bool false] []⟩,
  ⟨none, none, .store 14 (.tmp 4) (.tmp 18)⟩,
  ⟨none, some 5, .mv (.const (.bool false))⟩])
 .ret) .skip))
 (.seq (.region [⟨none, some 19, .build [.string ⟨#[]⟩, .int .i64 0] [(0, 1, (.const (.string ⟨#[46, 98, 121, 116, 101]⟩))), (1, 1, (.const (.int .i64 1)))]⟩,
  ⟨none, some 20, .build [.string ⟨#[]⟩, .int .i64 0] [(0, 1, (.const (.string ⟨#[46, 104, 97, 108, 102]⟩))), (1, 1, (.const (.int .i64 2)))]⟩,
  ⟨none, some 21, .build [.string ⟨#[]⟩, .int .i64 0] [(0, 1, (.const (.string ⟨#[46, 119, 111, 114, 100]⟩))), (1, 1, (.const (.int .i64 4)))]⟩,
  ⟨none, some 22, .build [.string ⟨#[]⟩, .int .i64 0] [(0, 1, (.const (.string ⟨#[46, 100, 119, 111, 114, 100]⟩))), (1, 1, (.const (.int .i64 8)))]⟩,
  ⟨none, some 23, .build [.string ⟨#[]⟩, .int .i64 0, .string ⟨#[]⟩, .int .i64 0, .string ⟨#[]⟩, .int .i64 0, .string ⟨#[]⟩, .int .i64 0] [(0, 2, (.tmp 19)), (2, 2, (.tmp 20)), (4, 2, (.tmp 21)), (6, 2, (.tmp 22))]⟩,
  ⟨none, some 8, .alloc [.string ⟨#[]⟩, .int .i64 0, .string ⟨#[]⟩, .int .i64 0, .string ⟨#[]⟩, .int .i64 0, .string ⟨#[]⟩, .int .i64 0]⟩,
  ⟨none, none, .store 8 (.tmp 8) (.tmp 23)⟩])
 (.seq (.seq (.region [⟨none, some 24, .loadN 8 (.tmp 8)⟩,
  ⟨none, some 25, .mv (.const (.int .i64 0))⟩])
 (.block 0 (.loop (.seq (.region [⟨none, some 26, .bin .lss (.tmp 25) (.const (.int .i64 4))⟩])
 (.seq (.cond (.tmp 26) .skip (.exit 0))
 (.seq (.block 1 (.seq (.region [⟨none, some 27, .ixN 4 2 (.tmp 24) (.tmp 25)⟩,
  ⟨none, some 10, .alloc [.string ⟨#[]⟩, .int .i64 0]⟩,
  ⟨none, none, .store 2 (.tmp 10) (.tmp 27)⟩])
 (.seq (.region [⟨none, some 28, .fad 0 (.tmp 10)⟩,
  ⟨none, some 29, .load1 (.tmp 28)⟩,
  ⟨none, some 30, .mv (.tmp 0)⟩,
  ⟨none, some 31, .bin .eql (.tmp 29) (.tmp 30)⟩])
 (.cond (.tmp 31) (.seq (.region [⟨none, some 32, .mv (.tmp 6)⟩,
  ⟨none, some 33, .convI .u64 (.tmp 32)⟩,
  ⟨none, some 34, .fad 1 (.tmp 10)⟩,
  ⟨none, some 35, .load1 (.tmp 34)⟩,
  ⟨none, some 36, .call (.func 36) [(.tmp 33), (.tmp 35)]⟩,
  ⟨none, some 37, .build [.string ⟨#[]⟩, .int .i64 0, .slice none 0 0, .int .i64 0, .int .i64 0, .int .i64 0, .int .i64 0, .int .i64 0, .bool false, .bool false, .int .i64 0, .int .i64 0, .string ⟨#[]⟩, .bool false] [(1, 1, (.const (.int .i64 (-1)))), (2, 1, (.tmp 36))]⟩,
  ⟨none, none, .store 14 (.tmp 4) (.tmp 37)⟩,
  ⟨none, some 5, .mv (.const (.bool true))⟩])
 .ret) .skip))))
 (.region [⟨none, some 38, .bin .add (.tmp 25) (.const (.int .i64 1))⟩,
  ⟨none, some 25, .mv (.tmp 38)⟩])))))))
 (.seq (.block 2 (.seq (.region [⟨none, some 40, .mv (.tmp 0)⟩,
  ⟨none, some 41, .bin .eql (.tmp 40) (.const (.string ⟨#[46, 111, 114, 103]⟩))⟩,
  ⟨none, some 42, .mv (.tmp 41)⟩,
  ⟨some (42, true), some 43, .mv (.tmp 6)⟩,
  ⟨some (42, true), some 44, .bin .geq (.tmp 43) (.const (.int .i64 0))⟩,
  ⟨none, some 45, .pick (.tmp 42) (.tmp 44) (.const (.bool false))⟩,
  ⟨none, some 39, .mv (.tmp 45)⟩])
 (.cond (.tmp 39) (.seq (.region [⟨none, some 46, .mv (.tmp 6)⟩,
  ⟨none, some 47, .mn (.tmp 46) (.const (.int .i64 1025))⟩,
  ⟨none, some 48, .build [.string ⟨#[]⟩, .int .i64 0, .slice none 0 0, .int .i64 0, .int .i64 0, .int .i64 0, .int .i64 0, .int .i64 0, .bool false, .bool false, .int .i64 0, .int .i64 0, .string ⟨#[]⟩, .bool false] [(1, 1, (.tmp 47))]⟩,
  ⟨none, none, .store 14 (.tmp 4) (.tmp 48)⟩,
  ⟨none, some 5, .mv (.const (.bool true))⟩])
 .ret) (.seq (.region [⟨none, some 50, .mv (.tmp 0)⟩,
  ⟨none, some 51, .bin .eql (.tmp 50) (.const (.string ⟨#[46, 122, 101, 114, 111]⟩))⟩,
  ⟨none, some 52, .mv (.tmp 51)⟩,
  ⟨some (52, true), some 53, .mv (.tmp 6)⟩,
  ⟨some (52, true), some 54, .bin .geq (.tmp 53) (.const (.int .i64 0))⟩,
  ⟨none, some 55, .pick (.tmp 52) (.tmp 54) (.const (.bool false))⟩,
  ⟨none, some 49, .mv (.tmp 55)⟩])
 (.cond (.tmp 49) (.seq (.region [⟨none, some 56, .mv (.tmp 6)⟩,
  ⟨none, some 57, .mn (.tmp 56) (.const (.int .i64 1025))⟩,
  ⟨none, some 58, .mk 1 1 [.int .u8 0] (.tmp 57) (.tmp 57)⟩,
  ⟨none, some 59, .build [.string ⟨#[]⟩, .int .i64 0, .slice none 0 0, .int .i64 0, .int .i64 0, .int .i64 0, .int .i64 0, .int .i64 0, .bool false, .bool false, .int .i64 0, .int .i64 0, .string ⟨#[]⟩, .bool false] [(1, 1, (.const (.int .i64 (-1)))), (2, 1, (.tmp 58))]⟩,
  ⟨none, none, .store 14 (.tmp 4) (.tmp 59)⟩,
  ⟨none, some 5, .mv (.const (.bool true))⟩])
 .ret) .skip)))))
 (.seq (.region [⟨none, some 60, .build [.string ⟨#[]⟩, .int .i64 0, .slice none 0 0, .int .i64 0, .int .i64 0, .int .i64 0, .int .i64 0, .int .i64 0, .bool false, .bool false, .int .i64 0, .int .i64 0, .string ⟨#[]⟩, .bool false] []⟩,
  ⟨none, none, .store 14 (.tmp 4) (.tmp 60)⟩,
  ⟨none, some 5, .mv (.const (.bool false))⟩])
 .ret))))))),
 [.cellN 4 14, .tmp 5]⟩
theorem c_asm_data : compF P0 pf Go.Proofs.Tryz.f119 = some L_asm_data := by kernel_rfl
/-- undertow/asm.short -/
abbrev n_asm_short : Nat := 120
def L_asm_short : LFn := ⟨46, (.seq (.region [⟨none, some 2, .mv (.const (.string ⟨#[]⟩))⟩])
 (.seq (.region [⟨none, some 10, .mv (.tmp 0)⟩,
  ⟨none, some 11, .call (.func 116) [(.tmp 10), (.const (.string ⟨#[32]⟩))]⟩,
  ⟨none, some 9, .mv (.tmp 11)⟩,
  ⟨none, some 12, .ext (.tmp 9) 0⟩,
  ⟨none, some 13, .ext (.tmp 9) 1⟩,
  ⟨none, some 14, .ext (.tmp 9) 2⟩,
  ⟨none, some 3, .mv (.tmp 12)⟩,
  ⟨none, some 4, .mv (.tmp 13)⟩,
  ⟨none, some 5, .mv (.tmp 14)⟩])
 (.seq (.block 0 (.seq (.region [⟨none, some 16, .mv (.tmp 0)⟩,
  ⟨none, some 17, .bin .eql (.tmp 16) (.const (.string ⟨#[110, 111, 112]⟩))⟩,
  ⟨none, some 15, .mv (.tmp 17)⟩])
 (.cond (.tmp 15) (.seq (.region [⟨none, some 2, .mv (.const (.string ⟨#[97, 100, 100, 105, 32, 120, 48, 44, 32, 120, 48, 44, 32, 48]⟩))⟩])
 .ret) (.seq (.region [⟨none, some 19, .mv (.tmp 0)⟩,
  ⟨none, some 20, .bin .eql (.tmp 19) (.const (.string ⟨#[104, 97, 108, 116]⟩))⟩,
  ⟨none, some 18, .mv (.tmp 20)⟩])
 (.cond (.tmp 18) (.seq (.region [⟨none, some 2, .mv (.const (.string ⟨#[101, 98, 114, 101, 97, 107]⟩))⟩])
 .ret) (.seq (.region [⟨none, some 22, .mv (.tmp 3)⟩,
  ⟨none, some 23, .bin .eql (.tmp 22) (.const (.string ⟨#[106]⟩))⟩,
  ⟨none, some 24, .mv (.tmp 23)⟩,
  ⟨some (24, true), some 25, .mv (.tmp 4)⟩,
  ⟨some (24, true), some 26, .call (.func 12) [(.tmp 25)]⟩,
  ⟨none, some 27, .pick (.tmp 24) (.tmp 26) (.const (.bool false))⟩,
  ⟨none, some 21, .mv (.tmp 27)⟩])
 (.cond (.tmp 21) (.seq (.region [⟨none, some 28, .mv (.tmp 4)⟩,
  ⟨none, some 29, .bin .add (.const (.string ⟨#[106, 97, 108, 32, 120, 48, 44, 32]⟩)) (.tmp 28)⟩,
  ⟨none, some 2, .mv (.tmp 29)⟩])
 .ret) (.seq (.region [⟨none, some 31, .mv (.tmp 3)⟩,
  ⟨none, some 32, .bin .eql (.tmp 31) (.const (.string ⟨#[108, 105]⟩))⟩,
  ⟨none, some 30, .mv (.tmp 32)⟩])
 (.cond (.tmp 30) (.seq (.region [⟨none, some 34, .mv (.tmp 4)⟩,
  ⟨none, some 35, .call (.func 116) [(.tmp 34), (.const (.string ⟨#[44, 32]⟩))]⟩,
  ⟨none, some 33, .mv (.tmp 35)⟩,
  ⟨none, some 36, .ext (.tmp 33) 0⟩,
  ⟨none, some 37, .ext (.tmp 33) 1⟩,
  ⟨none, some 38, .ext (.tmp 33) 2⟩,
  ⟨none, some 6, .mv (.tmp 36)⟩,
  ⟨none, some 7, .mv (.tmp 37)⟩,
  ⟨none, some 8, .mv (.tmp 38)⟩])
 (.seq (.region [⟨none, some 39, .mv (.tmp 8)⟩])
 (.cond (.tmp 39) (.seq (.region [⟨none, some 40, .mv (.tmp 6)⟩,
  ⟨none, some 41, .bin .add (.const (.string ⟨#[97, 100, 100, 105, 32]⟩)) (.tmp 40)⟩,
  ⟨none, some 42, .bin .add (.tmp 41) (.const (.string ⟨#[44, 32, 120, 48, 44, 32]⟩))⟩,
  ⟨none, some 43, .mv (.tmp 7)⟩,
  ⟨none, some 44, .bin .add (.tmp 42) (.tmp 43)⟩,
  ⟨none, some 2, .mv (.tmp 44)⟩])
 .ret) .skip))) .skip)))))))))
 (.seq (.region [⟨none, some 45, .mv (.tmp 0)⟩,
  ⟨none, some 2, .mv (.tmp 45)⟩])
 .ret)))),
 [.tmp 2]⟩
theorem c_asm_short : compF P0 pf Go.Proofs.Tryz.f120 = some L_asm_short := by kernel_rfl
/-- undertow/show.Read -/
abbrev n_show_Read : Nat := 121
def L_show_Read : LFn := ⟨18, (.seq (.region [⟨none, some 2, .alloc [.int .i64 0, .int .i64 0, .int .i64 0, .int .i64 0, .int .i64 0, .bool false, .bool false, .int .i64 0, .int .i64 0]⟩,
  ⟨none, some 3, .mv (.const (.int .i64 0))⟩])
 (.seq (.region [⟨none, some 5, .mv (.tmp 0)⟩,
  ⟨none, some 6, .call (.func 151) [(.tmp 5)]⟩,
  ⟨none, some 4, .alloc [.int .i64 0, .int .i64 0, .int .i64 0, .int .i64 0, .int .i64 0, .bool false, .bool false, .int .i64 0, .int .i64 0]⟩,
  ⟨none, none, .store 9 (.tmp 4) (.tmp 6)⟩])
 (.seq (.seq (.region [⟨none, some 7, .loadN 9 (.tmp 4)⟩,
  ⟨none, some 8, .call (.func 56) [(.tmp 7)]⟩,
  ⟨none, some 9, .un .not (.tmp 8)⟩,
  ⟨none, some 10, .mv (.tmp 9)⟩,
  ⟨some (10, false), some 11, .loadN 9 (.tmp 4)⟩,
  ⟨some (10, false), some 12, .call (.func 63) [(.tmp 11)]⟩,
  ⟨some (10, false), some 13, .mv (.tmp 0)⟩,
  ⟨some (10, false), some 14, .bin .neq (.tmp 12) (.tmp 13)⟩,
  ⟨none, some 15, .pick (.tmp 10) (.const (.bool true)) (.tmp 14)⟩])
 (.cond (.tmp 15) (.seq (.region [⟨none, some 16, .build [.int .i64 0, .int .i64 0, .int .i64 0, .int .i64 0, .int .i64 0, .bool false, .bool false, .int .i64 0, .int .i64 0] []⟩,
  ⟨none, none, .store 9 (.tmp 2) (.tmp 16)⟩,
  ⟨none, some 3, .mv (.const (.int .i64 5))⟩])
 .ret) .skip))
 (.seq (.region [⟨none, some 17, .loadN 9 (.tmp 4)⟩,
  ⟨none, none, .store 9 (.tmp 2) (.tmp 17)⟩,
  ⟨none, some 3, .mv (.const (.int .i64 0))⟩])
 .ret)))),
 [.cellN 2 9, .tmp 3]⟩
theorem c_show_Read : compF P0 pf Go.Proofs.Tryz.f121 = some L_show_Read := by kernel_rfl
/-- undertow/asm.leads -/
abbrev n_asm_leads : Nat := 122
def L_asm_leads : LFn := ⟨49, (.seq (.region [⟨none, some 2, .alloc [.string ⟨#[]⟩, .int .i64 0, .slice none 0 0, .int .i64 0, .int .i64 0, .int .i64 0, .int .i64 0, .int .i64 0, .bool false, .bool false, .int .i64 0, .int .i64 0, .string ⟨#[]⟩, .bool false]⟩,
  ⟨none, some 3, .mv (.const (.bool false))⟩])
 (.seq (.region [⟨none, some 7, .mv (.tmp 0)⟩,
  ⟨none, some 8, .call (.func 152) [(.tmp 7), (.const (.string ⟨#[32]⟩))]⟩,
  ⟨none, some 4, .mv (.tmp 8)⟩])
 (.seq (.seq (.region [⟨none, some 9, .mv (.tmp 4)⟩,
  ⟨none, some 10, .bin .lss (.tmp 9) (.const (.int .i64 0))⟩,
  ⟨none, some 11, .mv (.tmp 10)⟩,
  ⟨some (11, false), some 12, .mv (.tmp 0)⟩,
  ⟨some (11, false), some 13, .mv (.tmp 4)⟩,
  ⟨some (11, false), some 14, .bin .add (.tmp 13) (.const (.int .i64 1))⟩,
  ⟨some (11, false), some 15, .slcT (.tmp 12) (some (.tmp 14)) none⟩,
  ⟨some (11, false), some 16, .call (.func 12) [(.tmp 15)]⟩,
  ⟨some (11, false), some 17, .un .not (.tmp 16)⟩,
  ⟨none, some 18, .pick (.tmp 11) (.const (.bool true)) (.tmp 17)⟩])
 (.cond (.tmp 18) (.seq (.region [⟨none, some 19, .build [.string ⟨#[]⟩, .int .i64 0, .slice none 0 0, .int .i64 0, .int .i64 0, .int .i64 0, .int .i64 0, .int .i64 0, .bool false, .bool false, .int .i64 0, .int .i64 0, .string ⟨#[]⟩, .bool false] []⟩,
  ⟨none, none, .store 14 (.tmp 2) (.tmp 19)⟩,
  ⟨none, some 3, .mv (.const (.bool false))⟩])
 .ret) .skip))
 (.seq (.region [⟨none, some 21, .mv (.tmp 0)⟩,
  ⟨none, some 22, .mv (.tmp 4)⟩,
  ⟨none, some 23, .bin .add (.tmp 22) (.const (.int .i64 1))⟩,
  ⟨none, some 24, .slcT (.tmp 21) none (some (.tmp 23))⟩,
  ⟨none, some 25, .bin .add (.tmp 24) (.const (.string ⟨#[48]⟩))⟩,
  ⟨none, some 26, .call (.func 121) [(.tmp 25)]⟩,
  ⟨none, some 20, .mv (.tmp 26)⟩,
  ⟨none, some 27, .ext (.tmp 20) 0⟩,
  ⟨none, some 28, .ext (.tmp 20) 1⟩,
  ⟨none, some 5, .alloc [.int .i64 0, .int .i64 0, .int .i64 0, .int .i64 0, .int .i64 0, .bool false, .bool false, .int .i64 0, .int .i64 0]⟩,
  ⟨none, none, .store 9 (.tmp 5) (.tmp 27)⟩,
  ⟨none, some 6, .mv (.tmp 28)⟩])
 (.seq (.seq (.region [⟨none, some 29, .mv (.tmp 6)⟩,
  ⟨none, some 30, .bin .neq (.tmp 29) (.const (.int .i64 0))⟩,
  ⟨none, some 31, .mv (.tmp 30)⟩,
  ⟨some (31, false), some 32, .fad 0 (.tmp 5)⟩,
  ⟨some (31, false), some 33, .load1 (.tmp 32)⟩,
  ⟨some (31, false), some 34, .call (.func 42) [(.tmp 33)]⟩,
  ⟨some (31, false), some 35, .bin .neq (.tmp 34) (.const (.int .i64 3))⟩,
  ⟨some (31, false), some 36, .mv (.tmp 35)⟩,
  ⟨some (36, true), some 37, .fad 0 (.tmp 5)⟩,
  ⟨some (36, true), some 38, .load1 (.tmp 37)⟩,
  ⟨some (36, true), some 39, .bin .neq (.tmp 38) (.const (.int .i64 3))⟩,
  ⟨some (31, false), some 40, .pick (.tmp 36) (.tmp 39) (.const (.bool false))⟩,
  ⟨none, some 41, .pick (.tmp 31) (.const (.bool true)) (.tmp 40)⟩])
 (.cond (.tmp 41) (.seq (.region [⟨none, some 42, .build [.string ⟨#[]⟩, .int .i64 0, .slice none 0 0, .int .i64 0, .int .i64 0, .int .i64 0, .int .i64 0, .int .i64 0, .bool false, .bool false, .int .i64 0, .int .i64 0, .string ⟨#[]⟩, .bool false] []⟩,
  ⟨none, none, .store 14 (.tmp 2) (.tmp 42)⟩,
  ⟨none, some 3, .mv (.const (.bool false))⟩])
 .ret) .skip))
 (.seq (.region [⟨none, some 43, .loadN 9 (.tmp 5)⟩,
  ⟨none, some 44, .mv (.tmp 0)⟩,
  ⟨none, some 45, .mv (.tmp 4)⟩,
  ⟨none, some 46, .bin .add (.tmp 45) (.const (.int .i64 1))⟩,
  ⟨none, some 47, .slcT (.tmp 44) (some (.tmp 46)) none⟩,
  ⟨none, some 48, .build [.string ⟨#[]⟩, .int .i64 0, .slice none 0 0, .int .i64 0, .int .i64 0, .int .i64 0, .int .i64 0, .int .i64 0, .bool false, .bool false, .int .i64 0, .int .i64 0, .string ⟨#[]⟩, .bool false] [(1, 1, (.const (.int .i64 (-1)))), (3, 9, (.tmp 43)), (12, 1, (.tmp 47)), (13, 1, (.const (.bool true)))]⟩,
  ⟨none, none, .store 14 (.tmp 2) (.tmp 48)⟩,
  ⟨none, some 3, .mv (.const (.bool true))⟩])
 .ret)))))),
 [.cellN 2 14, .tmp 3]⟩
theorem c_asm_leads : compF P0 pf Go.Proofs.Tryz.f122 = some L_asm_leads := by kernel_rfl
/-- undertow/alu.pair -/
abbrev n_alu_pair : Nat := 123
def L_alu_pair : LFn := ⟨103, (.seq (.region [⟨none, some 6, .mv (.const (.int .u64 0))⟩])
 (.seq (.seq (.region [⟨none, some 7, .mv (.tmp 0)⟩])
 (.block 0 (.seq (.region [⟨none, some 9, .bin .eql (.tmp 7) (.const (.int .i64 35))⟩,
  ⟨none, some 8, .mv (.tmp 9)⟩])
 (.cond (.tmp 8) (.seq (.region [⟨none, some 10, .mv (.tmp 1)⟩,
  ⟨none, some 11, .mv (.tmp 2)⟩,
  ⟨none, some 12, .bin .add (.tmp 10) (.tmp 11)⟩,
  ⟨none, some 6, .mv (.tmp 12)⟩])
 .ret) (.seq (.region [⟨none, some 14, .bin .eql (.tmp 7) (.const (.int .i64 36))⟩,
  ⟨none, some 13, .mv (.tmp 14)⟩])
 (.cond (.tmp 13) (.seq (.region [⟨none, some 15, .mv (.tmp 1)⟩,
  ⟨none, some 16, .mv (.tmp 2)⟩,
  ⟨none, some 17, .bin .sub (.tmp 15) (.tmp 16)⟩,
  ⟨none, some 6, .mv (.tmp 17)⟩])
 .ret) (.seq (.region [⟨none, some 19, .bin .eql (.tmp 7) (.const (.int .i64 37))⟩,
  ⟨none, some 18, .mv (.tmp 19)⟩])
 (.cond (.tmp 18) (.seq (.region [⟨none, some 20, .mv (.tmp 1)⟩,
  ⟨none, some 21, .mv (.tmp 2)⟩,
  ⟨none, some 22, .bin .and (.tmp 21) (.const (.int .u64 63))⟩,
  ⟨none, some 23, .bin .shl (.tmp 20) (.tmp 22)⟩,
  ⟨none, some 6, .mv (.tmp 23)⟩])
 .ret) (.seq (.region [⟨none, some 25, .bin .eql (.tmp 7) (.const (.int .i64 38))⟩,
  ⟨none, some 24, .mv (.tmp 25)⟩])
 (.cond (.tmp 24) (.seq (.region [⟨none, some 26, .mv (.tmp 1)⟩,
  ⟨none, some 27, .convI .i64 (.tmp 26)⟩,
  ⟨none, some 28, .mv (.tmp 2)⟩,
  ⟨none, some 29, .convI .i64 (.tmp 28)⟩,
  ⟨none, some 30, .bin .lss (.tmp 27) (.tmp 29)⟩,
  ⟨none, some 31, .call (.func 153) [(.tmp 30)]⟩,
  ⟨none, some 6, .mv (.tmp 31)⟩])
 .ret) (.seq (.region [⟨none, some 33, .bin .eql (.tmp 7) (.const (.int .i64 39))⟩,
  ⟨none, some 32, .mv (.tmp 33)⟩])
 (.cond (.tmp 32) (.seq (.region [⟨none, some 34, .mv (.tmp 1)⟩,
  ⟨none, some 35, .mv (.tmp 2)⟩,
  ⟨none, some 36, .bin .lss (.tmp 34) (.tmp 35)⟩,
  ⟨none, some 37, .call (.func 153) [(.tmp 36)]⟩,
  ⟨none, some 6, .mv (.tmp 37)⟩])
 .ret) (.seq (.region [⟨none, some 39, .bin .eql (.tmp 7) (.const (.int .i64 40))⟩,
  ⟨none, some 38, .mv (.tmp 39)⟩])
 (.cond (.tmp 38) (.seq (.region [⟨none, some 40, .mv (.tmp 1)⟩,
  ⟨none, some 41, .mv (.tmp 2)⟩,
  ⟨none, some 42, .bin .xor (.tmp 40) (.tmp 41)⟩,
  ⟨none, some 6, .mv (.tmp 42)⟩])
 .ret) (.seq (.region [⟨none, some 44, .bin .eql (.tmp 7) (.const (.int .i64 41))⟩,
  ⟨none, some 43, .mv (.tmp 44)⟩])
 (.cond (.tmp 43) (.seq (.region [⟨none, some 45, .mv (.tmp 1)⟩,
  ⟨none, some 46, .mv (.tmp 2)⟩,
  ⟨none, some 47, .bin .and (.tmp 46) (.const (.int .u64 63))⟩,
  ⟨none, some 48, .bin .shr (.tmp 45) (.tmp 47)⟩,
  ⟨none, some 6, .mv (.tmp 48)⟩])
 .ret) (.seq (.region [⟨none, some 50, .bin .eql (.tmp 7) (.const (.int .i64 42))⟩,
  ⟨none, some 49, .mv (.tmp 50)⟩])
 (.cond (.tmp 49) (.seq (.region [⟨none, some 51, .mv (.tmp 1)⟩,
  ⟨none, some 52, .convI .i64 (.tmp 51)⟩,
  ⟨none, some 53, .mv (.tmp 2)⟩,
  ⟨none, some 54, .bin .and (.tmp 53) (.const (.int .u64 63))⟩,
  ⟨none, some 55, .bin .shr (.tmp 52) (.tmp 54)⟩,
  ⟨none, some 56, .convI .u64 (.tmp 55)⟩,
  ⟨none, some 6, .mv (.tmp 56)⟩])
 .ret) (.seq (.region [⟨none, some 58, .bin .eql (.tmp 7) (.const (.int .i64 43))⟩,
  ⟨none, some 57, .mv (.tmp 58)⟩])
 (.cond (.tmp 57) (.seq (.region [⟨none, some 59, .mv (.tmp 1)⟩,
  ⟨none, some 60, .mv (.tmp 2)⟩,
  ⟨none, some 61, .bin .or (.tmp 59) (.tmp 60)⟩,
  ⟨none, some 6, .mv (.tmp 61)⟩])
 .ret) (.seq (.region [⟨none, some 63, .bin .eql (.tmp 7) (.const (.int .i64 44))⟩,
  ⟨none, some 62, .mv (.tmp 63)⟩])
 (.cond (.tmp 62) (.seq (.region [⟨none, some 64, .mv (.tmp 1)⟩,
  ⟨none, some 65, .mv (.tmp 2)⟩,
  ⟨none, some 66, .bin .and (.tmp 64) (.tmp 65)⟩,
  ⟨none, some 6, .mv (.tmp 66)⟩])
 .ret) (.seq (.region [⟨none, some 68, .bin .eql (.tmp 7) (.const (.int .i64 45))⟩,
  ⟨none, some 67, .mv (.tmp 68)⟩])
 (.cond (.tmp 67) (.seq (.region [⟨none, some 69, .mv (.tmp 1)⟩,
  ⟨none, some 70, .mv (.tmp 2)⟩,
  ⟨none, some 71, .bin .add (.tmp 69) (.tmp 70)⟩,
  ⟨none, some 72, .call (.func 154) [(.tmp 71)]⟩,
  ⟨none, some 6, .mv (.tmp 72)⟩])
 .ret) (.seq (.region [⟨none, some 74, .bin .eql (.tmp 7) (.const (.int .i64 46))⟩,
  ⟨none, some 73, .mv (.tmp 74)⟩])
 (.cond (.tmp 73) (.seq (.region [⟨none, some 75, .mv (.tmp 1)⟩,
  ⟨none, some 76, .mv (.tmp 2)⟩,
  ⟨none, some 77, .bin .sub (.tmp 75) (.tmp 76)⟩,
  ⟨none, some 78, .call (.func 154) [(.tmp 77)]⟩,
  ⟨none, some 6, .mv (.tmp 78)⟩])
 .ret) (.seq (.region [⟨none, some 80, .bin .eql (.tmp 7) (.const (.int .i64 47))⟩,
  ⟨none, some 79, .mv (.tmp 80)⟩])
 (.cond (.tmp 79) (.seq (.region [⟨none, some 81, .mv (.tmp 1)⟩,
  ⟨none, some 82, .mv (.tmp 2)⟩,
  ⟨none, some 83, .bin .and (.tmp 82) (.const (.int .u64 31))⟩,
  ⟨none, some 84, .bin .shl (.tmp 81) (.tmp 83)⟩,
  ⟨none, some 85, .call (.func 154) [(.tmp 84)]⟩,
  ⟨none, some 6, .mv (.tmp 85)⟩])
 .ret) (.seq (.region [⟨none, some 87, .bin .eql (.tmp 7) (.const (.int .i64 48))⟩,
  ⟨none, some 86, .mv (.tmp 87)⟩])
 (.cond (.tmp 86) (.seq (.region [⟨none, some 88, .mv (.tmp 1)⟩,
  ⟨none, some 89, .call (.func 40) [(.tmp 88), (.const (.int .i64 32))]⟩,
  ⟨none, some 90, .mv (.tmp 2)⟩,
  ⟨none, some 91, .bin .and (.tmp 90) (.const (.int .u64 31))⟩,
  ⟨none, some 92, .bin .shr (.tmp 89) (.tmp 91)⟩,
  ⟨none, some 93, .call (.func 154) [(.tmp 92)]⟩,
  ⟨none, some 6, .mv (.tmp 93)⟩])
 .ret) (.seq (.region [⟨none, some 95, .bin .eql (.tmp 7) (.const (.int .i64 49))⟩,
  ⟨none, some 94, .mv (.tmp 95)⟩])
 (.cond (.tmp 94) (.seq (.region [⟨none, some 96, .mv (.tmp 1)⟩,
  ⟨none, some 97, .call (.func 154) [(.tmp 96)]⟩,
  ⟨none, some 98, .convI .i64 (.tmp 97)⟩,
  ⟨none, some 99, .mv (.tmp 2)⟩,
  ⟨none, some 100, .bin .and (.tmp 99) (.const (.int .u64 31))⟩,
  ⟨none, some 101, .bin .shr (.tmp 98) (.tmp 100)⟩,
  ⟨none, some 102, .convI .u64 (.tmp 101)⟩,
  ⟨none, some 6, .mv (.tmp 102)⟩])
 .ret) .skip))))))))))))))))))))))))))))))))
 (.seq (.region [⟨none, some 6, .mv (.const (.int .u64 0))⟩])
 .ret))),
 [.tmp 6]⟩
theorem c_alu_pair : compF P0 pf Go.Proofs.Tryz.f123 = some L_alu_pair := by kernel_rfl
/-- undertow/alu.pairs -/
abbrev n_alu_pairs : Nat := 124
def L_alu_pairs : LFn := ⟨2, (.seq (.region [⟨none, some 0, .alloc [.int .i64 0, .int .i64 0, .int .i64 0, .int .i64 0, .int .i64 0, .int .i64 0, .int .i64 0, .int .i64 0, .int .i64 0, .int .i64 0, .int .i64 0, .int .i64 0, .int .i64 0]⟩])
 (.seq (.region [⟨none, some 1, .build [.int .i64 0, .int .i64 0, .int .i64 0, .int .i64 0, .int .i64 0, .int .i64 0, .int .i64 0, .int .i64 0, .int .i64 0, .int .i64 0, .int .i64 0, .int .i64 0, .int .i64 0] [(0, 1, (.const (.int .i64 35))), (1, 1, (.const (.int .i64 38))), (2, 1, (.const (.int .i64 39))), (3, 1, (.const (.int .i64 40))), (4, 1, (.const (.int .i64 43))), (5, 1, (.const (.int .i64 44))), (6, 1, (.const (.int .i64 37))), (7, 1, (.const (.int .i64 41))), (8, 1, (.const (.int .i64 42))), (9, 1, (.const (.int .i64 45))), (10, 1, (.const (.int .i64 47))), (11, 1, (.const (.int .i64 48))), (12, 1, (.const (.int .i64 49)))]⟩,
  ⟨none, none, .store 13 (.tmp 0) (.tmp 1)⟩])
 .ret)),
 [.cellN 0 13]⟩
theorem c_alu_pairs : compF P0 pf Go.Proofs.Tryz.f124 = some L_alu_pairs := by kernel_rfl
/-- undertow/field.of -/
abbrev n_field_of : Nat := 125
def L_field_of : LFn := ⟨14, (.seq (.region [⟨none, some 2, .alloc [.int .i64 0, .int .i64 0, .slice none 0 0]⟩,
  ⟨none, some 3, .mv (.const (.bool false))⟩])
 (.seq (.seq (.region [⟨none, some 4, .mv (.tmp 0)⟩,
  ⟨none, some 5, .bin .lss (.tmp 4) (.const (.int .i64 1))⟩,
  ⟨none, some 6, .mv (.tmp 5)⟩,
  ⟨some (6, false), some 7, .mv (.tmp 0)⟩,
  ⟨some (6, false), some 8, .bin .gtr (.tmp 7) (.const (.int .i64 5))⟩,
  ⟨none, some 9, .pick (.tmp 6) (.const (.bool true)) (.tmp 8)⟩])
 (.cond (.tmp 9) (.seq (.region [⟨none, some 10, .build [.int .i64 0, .int .i64 0, .slice none 0 0] []⟩,
  ⟨none, none, .store 3 (.tmp 2) (.tmp 10)⟩,
  ⟨none, some 3, .mv (.const (.bool false))⟩])
 .ret) .skip))
 (.seq (.region [⟨none, some 11, .call (.func 155) []⟩,
  ⟨none, some 12, .mv (.tmp 0)⟩,
  ⟨none, some 13, .ixN 6 3 (.tmp 11) (.tmp 12)⟩,
  ⟨none, none, .store 3 (.tmp 2) (.tmp 13)⟩,
  ⟨none, some 3, .mv (.const (.bool true))⟩])
 .ret))),
 [.cellN 2 3, .tmp 3]⟩
theorem c_field_of : compF P0 pf Go.Proofs.Tryz.f125 = some L_field_of := by kernel_rfl
/-- undertow/show.reg -/
abbrev n_show_reg : Nat := 127
def L_show_reg : LFn := ⟨6, (.seq (.region [⟨none, some 2, .mv (.const (.string ⟨#[]⟩))⟩])
 (.seq (.region [⟨none, some 3, .mv (.tmp 0)⟩,
  ⟨none, some 4, .call (.func 26) [(.tmp 3)]⟩,
  ⟨none, some 5, .bin .add (.const (.string ⟨#[120]⟩)) (.tmp 4)⟩,
  ⟨none, some 2, .mv (.tmp 5)⟩])
 .ret)),
 [.tmp 2]⟩
theorem c_show_reg : compF P0 pf Go.Proofs.Tryz.f127 = some L_show_reg := by kernel_rfl
/-- undertow/show.set -/
abbrev n_show_set : Nat := 128
def L_show_set : LFn := ⟨23, (.seq (.region [⟨none, some 2, .mv (.const (.string ⟨#[]⟩))⟩])
 (.seq (.region [⟨none, some 3, .mv (.const (.string ⟨#[]⟩))⟩])
 (.seq (.seq (.region [⟨none, some 5, .mv (.const (.int .i64 0))⟩])
 (.block 0 (.loop (.seq (.region [⟨none, some 6, .bin .lss (.tmp 5) (.const (.int .i64 4))⟩])
 (.seq (.cond (.tmp 6) .skip (.exit 0))
 (.seq (.block 1 (.seq (.region [⟨none, some 7, .mv (.tmp 5)⟩,
  ⟨none, some 4, .mv (.tmp 7)⟩])
 (.seq (.region [⟨none, some 8, .mv (.tmp 0)⟩,
  ⟨none, some 9, .mv (.tmp 4)⟩,
  ⟨none, some 10, .bin .shr (.const (.int .i64 8)) (.tmp 9)⟩,
  ⟨none, some 11, .bin .and (.tmp 8) (.tmp 10)⟩,
  ⟨none, some 12, .bin .neq (.tmp 11) (.const (.int .i64 0))⟩])
 (.cond (.tmp 12) (.region [⟨none, some 13, .mv (.tmp 3)⟩,
  ⟨none, some 14, .mv (.tmp 4)⟩,
  ⟨none, some 15, .mv (.tmp 4)⟩,
  ⟨none, some 16, .bin .add (.tmp 15) (.const (.int .i64 1))⟩,
  ⟨none, some 17, .slcT (.const (.string ⟨#[105, 111, 114, 119]⟩)) (some (.tmp 14)) (some (.tmp 16))⟩,
  ⟨none, some 18, .bin .add (.tmp 13) (.tmp 17)⟩,
  ⟨none, some 3, .mv (.tmp 18)⟩]) .skip))))
 (.region [⟨none, some 19, .bin .add (.tmp 5) (.const (.int .i64 1))⟩,
  ⟨none, some 5, .mv (.tmp 19)⟩])))))))
 (.seq (.seq (.region [⟨none, some 20, .mv (.tmp 3)⟩,
  ⟨none, some 21, .bin .eql (.tmp 20) (.const (.string ⟨#[]⟩))⟩])
 (.cond (.tmp 21) (.seq (.region [⟨none, some 2, .mv (.const (.string ⟨#[48]⟩))⟩])
 .ret) .skip))
 (.seq (.region [⟨none, some 22, .mv (.tmp 3)⟩,
  ⟨none, some 2, .mv (.tmp 22)⟩])
 .ret))))),
 [.tmp 2]⟩
theorem c_show_set : compF P0 pf Go.Proofs.Tryz.f128 = some L_show_set := by kernel_rfl
/-- undertow/ops.Name -/
abbrev n_ops_Name : Nat := 129
def L_ops_Name : LFn := ⟨9, (.seq (.region [⟨none, some 2, .mv (.const (.string ⟨#[]⟩))⟩])
 (.seq (.seq (.region [⟨none, some 3, .mv (.tmp 0)⟩,
  ⟨none, some 4, .call (.func 42) [(.tmp 3)]⟩,
  ⟨none, some 5, .bin .eql (.tmp 4) (.const (.int .i64 0))⟩])
 (.cond (.tmp 5) (.seq (.region [⟨none, some 2, .mv (.const (.string ⟨#[]⟩))⟩])
 .ret) .skip))
 (.seq (.region [⟨none, some 6, .call (.func 156) []⟩,
  ⟨none, some 7, .mv (.tmp 0)⟩,
  ⟨none, some 8, .ix1 76 (.tmp 6) (.tmp 7)⟩,
  ⟨none, some 2, .mv (.tmp 8)⟩])
 .ret))),
 [.tmp 2]⟩
theorem c_ops_Name : compF P0 pf Go.Proofs.Tryz.f129 = some L_ops_Name := by kernel_rfl
/-- strings.splitSeq$1 -/
abbrev n_strings_splitSeq_1 : Nat := 138
def L_strings_splitSeq_1 : LFn := ⟨52, (.seq (.seq (.region [⟨none, some 9, .load1 (.tmp 1)⟩,
  ⟨none, some 10, .lenT (.tmp 9)⟩,
  ⟨none, some 11, .bin .eql (.tmp 10) (.const (.int .i64 0))⟩])
 (.cond (.tmp 11) (.seq (.block 0 (.loop (.seq (.seq (.region [⟨none, some 12, .load1 (.tmp 2)⟩,
  ⟨none, some 13, .lenT (.tmp 12)⟩,
  ⟨none, some 14, .bin .gtr (.tmp 13) (.const (.int .i64 0))⟩])
 (.cond (.tmp 14) .skip (.exit 0)))
 (.block 1 (.seq (.region [⟨none, some 16, .load1 (.tmp 2)⟩,
  ⟨none, some 17, .call (.func 139) [(.tmp 16)]⟩,
  ⟨none, some 15, .mv (.tmp 17)⟩,
  ⟨none, some 18, .ext (.tmp 15) 0⟩,
  ⟨none, some 19, .ext (.tmp 15) 1⟩,
  ⟨none, some 5, .mv (.tmp 18)⟩,
  ⟨none, some 6, .mv (.tmp 19)⟩])
 (.seq (.seq (.region [⟨none, some 20, .mv (.tmp 0)⟩,
  ⟨none, some 21, .load1 (.tmp 2)⟩,
  ⟨none, some 22, .mv (.tmp 6)⟩,
  ⟨none, some 23, .slcT (.tmp 21) none (some (.tmp 22))⟩,
  ⟨none, some 24, .call (.tmp 20) [(.tmp 23)]⟩,
  ⟨none, some 25, .un .not (.tmp 24)⟩])
 (.cond (.tmp 25) .ret .skip))
 (.region [⟨none, some 26, .load1 (.tmp 2)⟩,
  ⟨none, some 27, .mv (.tmp 6)⟩,
  ⟨none, some 28, .slcT (.tmp 26) (some (.tmp 27)) none⟩,
  ⟨none, none, .store 1 (.tmp 2) (.tmp 28)⟩])))))))
 .ret) .skip))
 (.seq (.block 2 (.loop (.block 3 (.seq (.region [⟨none, some 29, .load1 (.tmp 2)⟩,
  ⟨none, some 30, .load1 (.tmp 1)⟩,
  ⟨none, some 31, .call (.func 140) [(.tmp 29), (.tmp 30)]⟩,
  ⟨none, some 7, .mv (.tmp 31)⟩])
 (.seq (.seq (.region [⟨none, some 32, .mv (.tmp 7)⟩,
  ⟨none, some 33, .bin .lss (.tmp 32) (.const (.int .i64 0))⟩])
 (.cond (.tmp 33) (.exit 2) .skip))
 (.seq (.region [⟨none, some 34, .load1 (.tmp 2)⟩,
  ⟨none, some 35, .mv (.tmp 7)⟩,
  ⟨none, some 36, .load1 (.tmp 3)⟩,
  ⟨none, some 37, .bin .add (.tmp 35) (.tmp 36)⟩,
  ⟨none, some 38, .slcT (.tmp 34) none (some (.tmp 37))⟩,
  ⟨none, some 8, .mv (.tmp 38)⟩])
 (.seq (.seq (.region [⟨none, some 39, .mv (.tmp 0)⟩,
  ⟨none, some 40, .mv (.tmp 8)⟩,
  ⟨none, some 41, .call (.tmp 39) [(.tmp 40)]⟩,
  ⟨none, some 42, .un .not (.tmp 41)⟩])
 (.cond (.tmp 42) .ret .skip))
 (.region [⟨none, some 43, .load1 (.tmp 2)⟩,
  ⟨none, some 44, .mv (.tmp 7)⟩,
  ⟨none, some 45, .load1 (.tmp 1)⟩,
  ⟨none, some 46, .lenT (.tmp 45)⟩,
  ⟨none, some 47, .bin .add (.tmp 44) (.tmp 46)⟩,
  ⟨none, some 48, .slcT (.tmp 43) (some (.tmp 47)) none⟩,
  ⟨none, none, .store 1 (.tmp 2) (.tmp 48)⟩]))))))))
 (.region [⟨none, some 49, .mv (.tmp 0)⟩,
  ⟨none, some 50, .load1 (.tmp 2)⟩,
  ⟨none, some 51, .call (.tmp 49) [(.tmp 50)]⟩]))),
 []⟩
theorem c_strings_splitSeq_1 : compF P0 pf Go.Proofs.Tryz.f138 = some L_strings_splitSeq_1 := by kernel_rfl
/-- unicode/utf8.DecodeRuneInString -/
abbrev n_unicode_utf8_DecodeRuneInString : Nat := 139
def L_unicode_utf8_DecodeRuneInString : LFn := ⟨19, (.seq (.region [⟨none, some 2, .mv (.const (.int .i32 0))⟩,
  ⟨none, some 3, .mv (.const (.int .i64 0))⟩])
 (.seq (.seq (.region [⟨none, some 4, .mv (.tmp 0)⟩,
  ⟨none, some 5, .bin .neq (.tmp 4) (.const (.string ⟨#[]⟩))⟩,
  ⟨none, some 6, .mv (.tmp 5)⟩,
  ⟨some (6, true), some 7, .mv (.tmp 0)⟩,
  ⟨some (6, true), some 8, .ixS (.tmp 7) (.const (.int .i64 0))⟩,
  ⟨some (6, true), some 9, .bin .lss (.tmp 8) (.const (.int .u8 128))⟩,
  ⟨none, some 10, .pick (.tmp 6) (.tmp 9) (.const (.bool false))⟩])
 (.cond (.tmp 10) (.seq (.region [⟨none, some 11, .mv (.tmp 0)⟩,
  ⟨none, some 12, .ixS (.tmp 11) (.const (.int .i64 0))⟩,
  ⟨none, some 13, .convI .i32 (.tmp 12)⟩,
  ⟨none, some 2, .mv (.tmp 13)⟩,
  ⟨none, some 3, .mv (.const (.int .i64 1))⟩])
 .ret) (.region [⟨none, some 15, .mv (.tmp 0)⟩,
  ⟨none, some 16, .call (.func 161) [(.tmp 15)]⟩,
  ⟨none, some 14, .mv (.tmp 16)⟩,
  ⟨none, some 17, .ext (.tmp 14) 0⟩,
  ⟨none, some 18, .ext (.tmp 14) 1⟩,
  ⟨none, some 2, .mv (.tmp 17)⟩,
  ⟨none, some 3, .mv (.tmp 18)⟩])))
 .ret)),
 [.tmp 2, .tmp 3]⟩
theorem c_unicode_utf8_DecodeRuneInString : compF P0 pf Go.Proofs.Tryz.f139 = some L_unicode_utf8_DecodeRuneInString := by kernel_rfl
/-- strings.trimLeftByte -/
abbrev n_strings_trimLeftByte : Nat := 142
def L_strings_trimLeftByte : LFn := ⟨17, (.seq (.region [⟨none, some 4, .mv (.const (.string ⟨#[]⟩))⟩])
 (.seq (.block 0 (.loop (.seq (.seq (.region [⟨none, some 5, .mv (.tmp 0)⟩,
  ⟨none, some 6, .lenT (.tmp 5)⟩,
  ⟨none, some 7, .bin .gtr (.tmp 6) (.const (.int .i64 0))⟩,
  ⟨none, some 8, .mv (.tmp 7)⟩,
  ⟨some (8, true), some 9, .mv (.tmp 0)⟩,
  ⟨some (8, true), some 10, .ixS (.tmp 9) (.const (.int .i64 0))⟩,
  ⟨some (8, true), some 11, .mv (.tmp 1)⟩,
  ⟨some (8, true), some 12, .bin .eql (.tmp 10) (.tmp 11)⟩,
  ⟨none, some 13, .pick (.tmp 8) (.tmp 12) (.const (.bool false))⟩])
 (.cond (.tmp 13) .skip (.exit 0)))
 (.block 1 (.region [⟨none, some 14, .mv (.tmp 0)⟩,
  ⟨none, some 15, .slcT (.tmp 14) (some (.const (.int .i64 1))) none⟩,
  ⟨none, some 0, .mv (.tmp 15)⟩])))))
 (.seq (.region [⟨none, some 16, .mv (.tmp 0)⟩,
  ⟨none, some 4, .mv (.tmp 16)⟩])
 .ret))),
 [.tmp 4]⟩
theorem c_strings_trimLeftByte : compF P0 pf Go.Proofs.Tryz.f142 = some L_strings_trimLeftByte := by kernel_rfl
/-- strings.trimRightByte -/
abbrev n_strings_trimRightByte : Nat := 143
def L_strings_trimRightByte : LFn := ⟨23, (.seq (.region [⟨none, some 4, .mv (.const (.string ⟨#[]⟩))⟩])
 (.seq (.block 0 (.loop (.seq (.seq (.region [⟨none, some 5, .mv (.tmp 0)⟩,
  ⟨none, some 6, .lenT (.tmp 5)⟩,
  ⟨none, some 7, .bin .gtr (.tmp 6) (.const (.int .i64 0))⟩,
  ⟨none, some 8, .mv (.tmp 7)⟩,
  ⟨some (8, true), some 9, .mv (.tmp 0)⟩,
  ⟨some (8, true), some 10, .mv (.tmp 0)⟩,
  ⟨some (8, true), some 11, .lenT (.tmp 10)⟩,
  ⟨some (8, true), some 12, .bin .sub (.tmp 11) (.const (.int .i64 1))⟩,
  ⟨some (8, true), some 13, .ixS (.tmp 9) (.tmp 12)⟩,
  ⟨some (8, true), some 14, .mv (.tmp 1)⟩,
  ⟨some (8, true), some 15, .bin .eql (.tmp 13) (.tmp 14)⟩,
  ⟨none, some 16, .pick (.tmp 8) (.tmp 15) (.const (.bool false))⟩])
 (.cond (.tmp 16) .skip (.exit 0)))
 (.block 1 (.region [⟨none, some 17, .mv (.tmp 0)⟩,
  ⟨none, some 18, .mv (.tmp 0)⟩,
  ⟨none, some 19, .lenT (.tmp 18)⟩,
  ⟨none, some 20, .bin .sub (.tmp 19) (.const (.int .i64 1))⟩,
  ⟨none, some 21, .slcT (.tmp 17) none (some (.tmp 20))⟩,
  ⟨none, some 0, .mv (.tmp 21)⟩])))))
 (.seq (.region [⟨none, some 22, .mv (.tmp 0)⟩,
  ⟨none, some 4, .mv (.tmp 22)⟩])
 .ret))),
 [.tmp 4]⟩
theorem c_strings_trimRightByte : compF P0 pf Go.Proofs.Tryz.f143 = some L_strings_trimRightByte := by kernel_rfl
/-- strings.makeASCIISet -/
abbrev n_strings_makeASCIISet : Nat := 144
def L_strings_makeASCIISet : LFn := ⟨21, (.seq (.region [⟨none, some 2, .alloc [.bool false, .bool false, .bool false, .bool false, .bool false, .bool false, .bool false, .bool false, .bool false, .bool false, .bool false, .bool false, .bool false, .bool false, .bool false, .bool false, .bool false, .bool false, .bool false, .bool false, .bool false, .bool false, .bool false, .bool false, .bool false, .bool false, .bool false, .bool false, .bool false, .bool false, .bool false, .bool false, .bool false, .bool false, .bool false, .bool false, .bool false, .bool false, .bool false, .bool false, .bool false, .bool false, .bool false, .bool false, .bool false, .bool false, .bool false, .bool false, .bool false, .bool false, .bool false, .bool false, .bool false, .bool false, .bool false, .bool false, .bool false, .bool false, .bool false, .bool false, .bool false, .bool false, .bool false, .bool false, .bool false, .bool false, .bool false, .bool false, .bool false, .bool false, .bool false, .bool false, .bool false, .bool false, .bool false, .bool false, .bool false, .bool false, .bool false, .bool false, .bool false, .bool false, .bool false, .bool false, .bool false, .bool false, .bool false, .bool false, .bool false, .bool false, .bool false, .bool false, .bool false, .bool false, .bool false, .bool false, .bool false, .bool false, .bool false, .bool false, .bool false, .bool false, .bool false, .bool false, .bool false, .bool false, .bool false, .bool false, .bool false, .bool false, .bool false, .bool false, .bool false, .bool false, .bool false, .bool false, .bool false, .bool false, .bool false, .bool false, .bool false, .bool false, .bool false, .bool false, .bool false, .bool false, .bool false, .bool false, .bool false, .bool false, .bool false, .bool false, .bool false, .bool false, .bool false, .bool false, .bool false, .bool false, .bool false, .bool false, .bool false, .bool false, .bool false, .bool false, .bool false, .bool false, .bool false, .bool false, .bool false, .bool false, .bool false, .bool false, .bool false, .bool false, .bool false, .bool false, .bool false, .bool false, .bool false, .bool false, .bool false, .bool false, .bool false, .bool false, .bool false, .bool false, .bool false, .bool false, .bool false, .bool false, .bool false, .bool false, .bool false, .bool false, .bool false, .bool false, .bool false, .bool false, .bool false, .bool false, .bool false, .bool false, .bool false, .bool false, .bool false, .bool false, .bool false, .bool false, .bool false, .bool false, .bool false, .bool false, .bool false, .bool false, .bool false, .bool false, .bool false, .bool false, .bool false, .bool false, .bool false, .bool false, .bool false, .bool false, .bool false, .bool false, .bool false, .bool false, .bool false, .bool false, .bool false, .bool false, .bool false, .bool false, .bool false, .bool false, .bool false, .bool false, .bool false, .bool false, .bool false, .bool false, .bool false, .bool false, .bool false, .bool false, .bool false, .bool false, .bool false, .bool false, .bool false, .bool false, .bool false, .bool false, .bool false, .bool false, .bool false, .bool false, .bool false, .bool false, .bool false, .bool false, .bool false, .bool false, .bool false, .bool false, .bool false, .bool false, .bool false, .bool false, .bool false, .bool false, .bool false, .bool false, .bool false, .bool false]⟩,
  ⟨none, some 3, .mv (.const (.bool false))⟩])
 (.seq (.seq (.region [⟨none, some 4, .mv (.const (.int .i64 0))⟩])
 (.block 0 (.loop (.seq (.seq (.region [⟨none, some 6, .mv (.tmp 4)⟩,
  ⟨none, some 7, .mv (.tmp 0)⟩,
  ⟨none, some 8, .lenT (.tmp 7)⟩,
  ⟨none, some 9, .bin .lss (.tmp 6) (.tmp 8)⟩])
 (.cond (.tmp 9) .skip (.exit 0)))
 (.seq (.block 1 (.seq (.region [⟨none, some 12, .mv (.tmp 0)⟩,
  ⟨none, some 13, .mv (.tmp 4)⟩,
  ⟨none, some 14, .ixS (.tmp 12) (.tmp 13)⟩,
  ⟨none, some 5, .mv (.tmp 14)⟩])
 (.seq (.seq (.region [⟨none, some 15, .mv (.tmp 5)⟩,
  ⟨none, some 16, .bin .geq (.tmp 15) (.const (.int .u8 128))⟩])
 (.cond (.tmp 16) (.seq (.region [⟨none, some 17, .loadN 256 (.tmp 2)⟩,
  ⟨none, none, .store 256 (.tmp 2) (.tmp 17)⟩,
  ⟨none, some 3, .mv (.const (.bool false))⟩])
 .ret) .skip))
 (.region [⟨none, some 18, .mv (.tmp 5)⟩,
  ⟨none, some 19, .iadA 256 1 (.tmp 2) (.tmp 18)⟩,
  ⟨none, none, .store 1 (.tmp 19) (.const (.bool true))⟩]))))
 (.region [⟨none, some 10, .mv (.tmp 4)⟩,
  ⟨none, some 11, .bin .add (.tmp 10) (.const (.int .i64 1))⟩,
  ⟨none, some 4, .mv (.tmp 11)⟩]))))))
 (.seq (.region [⟨none, some 20, .loadN 256 (.tmp 2)⟩,
  ⟨none, none, .store 256 (.tmp 2) (.tmp 20)⟩,
  ⟨none, some 3, .mv (.const (.bool true))⟩])
 .ret))),
 [.cellN 2 256, .tmp 3]⟩
theorem c_strings_makeASCIISet : compF P0 pf Go.Proofs.Tryz.f144 = some L_strings_makeASCIISet := by kernel_rfl
/-- strings.trimLeftASCII -/
abbrev n_strings_trimLeftASCII : Nat := 145
def L_strings_trimLeftASCII : LFn := ⟨16, (.seq (.region [⟨none, some 4, .mv (.const (.string ⟨#[]⟩))⟩])
 (.seq (.block 0 (.loop (.seq (.seq (.region [⟨none, some 5, .mv (.tmp 0)⟩,
  ⟨none, some 6, .lenT (.tmp 5)⟩,
  ⟨none, some 7, .bin .gtr (.tmp 6) (.const (.int .i64 0))⟩])
 (.cond (.tmp 7) .skip (.exit 0)))
 (.block 1 (.seq (.seq (.region [⟨none, some 8, .mv (.tmp 1)⟩,
  ⟨none, some 9, .mv (.tmp 0)⟩,
  ⟨none, some 10, .ixS (.tmp 9) (.const (.int .i64 0))⟩,
  ⟨none, some 11, .call (.func 163) [(.tmp 8), (.tmp 10)]⟩,
  ⟨none, some 12, .un .not (.tmp 11)⟩])
 (.cond (.tmp 12) (.exit 0) .skip))
 (.region [⟨none, some 13, .mv (.tmp 0)⟩,
  ⟨none, some 14, .slcT (.tmp 13) (some (.const (.int .i64 1))) none⟩,
  ⟨none, some 0, .mv (.tmp 14)⟩]))))))
 (.seq (.region [⟨none, some 15, .mv (.tmp 0)⟩,
  ⟨none, some 4, .mv (.tmp 15)⟩])
 .ret))),
 [.tmp 4]⟩
theorem c_strings_trimLeftASCII : compF P0 pf Go.Proofs.Tryz.f145 = some L_strings_trimLeftASCII := by kernel_rfl
/-- strings.trimRightASCII -/
abbrev n_strings_trimRightASCII : Nat := 146
def L_strings_trimRightASCII : LFn := ⟨22, (.seq (.region [⟨none, some 4, .mv (.const (.string ⟨#[]⟩))⟩])
 (.seq (.block 0 (.loop (.seq (.seq (.region [⟨none, some 5, .mv (.tmp 0)⟩,
  ⟨none, some 6, .lenT (.tmp 5)⟩,
  ⟨none, some 7, .bin .gtr (.tmp 6) (.const (.int .i64 0))⟩])
 (.cond (.tmp 7) .skip (.exit 0)))
 (.block 1 (.seq (.seq (.region [⟨none, some 8, .mv (.tmp 1)⟩,
  ⟨none, some 9, .mv (.tmp 0)⟩,
  ⟨none, some 10, .mv (.tmp 0)⟩,
  ⟨none, some 11, .lenT (.tmp 10)⟩,
  ⟨none, some 12, .bin .sub (.tmp 11) (.const (.int .i64 1))⟩,
  ⟨none, some 13, .ixS (.tmp 9) (.tmp 12)⟩,
  ⟨none, some 14, .call (.func 163) [(.tmp 8), (.tmp 13)]⟩,
  ⟨none, some 15, .un .not (.tmp 14)⟩])
 (.cond (.tmp 15) (.exit 0) .skip))
 (.region [⟨none, some 16, .mv (.tmp 0)⟩,
  ⟨none, some 17, .mv (.tmp 0)⟩,
  ⟨none, some 18, .lenT (.tmp 17)⟩,
  ⟨none, some 19, .bin .sub (.tmp 18) (.const (.int .i64 1))⟩,
  ⟨none, some 20, .slcT (.tmp 16) none (some (.tmp 19))⟩,
  ⟨none, some 0, .mv (.tmp 20)⟩]))))))
 (.seq (.region [⟨none, some 21, .mv (.tmp 0)⟩,
  ⟨none, some 4, .mv (.tmp 21)⟩])
 .ret))),
 [.tmp 4]⟩
theorem c_strings_trimRightASCII : compF P0 pf Go.Proofs.Tryz.f146 = some L_strings_trimRightASCII := by kernel_rfl
/-- strings.trimLeftUnicode -/
abbrev n_strings_trimLeftUnicode : Nat := 147
def L_strings_trimLeftUnicode : LFn := ⟨23, (.seq (.region [⟨none, some 4, .mv (.const (.string ⟨#[]⟩))⟩])
 (.seq (.block 0 (.loop (.seq (.seq (.region [⟨none, some 7, .mv (.tmp 0)⟩,
  ⟨none, some 8, .lenT (.tmp 7)⟩,
  ⟨none, some 9, .bin .gtr (.tmp 8) (.const (.int .i64 0))⟩])
 (.cond (.tmp 9) .skip (.exit 0)))
 (.block 1 (.seq (.region [⟨none, some 11, .mv (.tmp 0)⟩,
  ⟨none, some 12, .call (.func 139) [(.tmp 11)]⟩,
  ⟨none, some 10, .mv (.tmp 12)⟩,
  ⟨none, some 13, .ext (.tmp 10) 0⟩,
  ⟨none, some 14, .ext (.tmp 10) 1⟩,
  ⟨none, some 5, .mv (.tmp 13)⟩,
  ⟨none, some 6, .mv (.tmp 14)⟩])
 (.seq (.seq (.region [⟨none, some 15, .mv (.tmp 1)⟩,
  ⟨none, some 16, .mv (.tmp 5)⟩,
  ⟨none, some 17, .call (.func 164) [(.tmp 15), (.tmp 16)]⟩,
  ⟨none, some 18, .un .not (.tmp 17)⟩])
 (.cond (.tmp 18) (.exit 0) .skip))
 (.region [⟨none, some 19, .mv (.tmp 0)⟩,
  ⟨none, some 20, .mv (.tmp 6)⟩,
  ⟨none, some 21, .slcT (.tmp 19) (some (.tmp 20)) none⟩,
  ⟨none, some 0, .mv (.tmp 21)⟩])))))))
 (.seq (.region [⟨none, some 22, .mv (.tmp 0)⟩,
  ⟨none, some 4, .mv (.tmp 22)⟩])
 .ret))),
 [.tmp 4]⟩
theorem c_strings_trimLeftUnicode : compF P0 pf Go.Proofs.Tryz.f147 = some L_strings_trimLeftUnicode := by kernel_rfl
/-- strings.trimRightUnicode -/
abbrev n_strings_trimRightUnicode : Nat := 148
def L_strings_trimRightUnicode : LFn := ⟨34, (.seq (.region [⟨none, some 4, .mv (.const (.string ⟨#[]⟩))⟩])
 (.seq (.block 0 (.loop (.seq (.seq (.region [⟨none, some 7, .mv (.tmp 0)⟩,
  ⟨none, some 8, .lenT (.tmp 7)⟩,
  ⟨none, some 9, .bin .gtr (.tmp 8) (.const (.int .i64 0))⟩])
 (.cond (.tmp 9) .skip (.exit 0)))
 (.block 1 (.seq (.region [⟨none, some 10, .mv (.tmp 0)⟩,
  ⟨none, some 11, .mv (.tmp 0)⟩,
  ⟨none, some 12, .lenT (.tmp 11)⟩,
  ⟨none, some 13, .bin .sub (.tmp 12) (.const (.int .i64 1))⟩,
  ⟨none, some 14, .ixS (.tmp 10) (.tmp 13)⟩,
  ⟨none, some 15, .convI .i32 (.tmp 14)⟩,
  ⟨none, some 5, .mv (.tmp 15)⟩,
  ⟨none, some 6, .mv (.const (.int .i64 1))⟩])
 (.seq (.seq (.region [⟨none, some 16, .mv (.tmp 5)⟩,
  ⟨none, some 17, .bin .geq (.tmp 16) (.const (.int .i32 128))⟩])
 (.cond (.tmp 17) (.region [⟨none, some 19, .mv (.tmp 0)⟩,
  ⟨none, some 20, .call (.func 165) [(.tmp 19)]⟩,
  ⟨none, some 18, .mv (.tmp 20)⟩,
  ⟨none, some 21, .ext (.tmp 18) 0⟩,
  ⟨none, some 22, .ext (.tmp 18) 1⟩,
  ⟨none, some 5, .mv (.tmp 21)⟩,
  ⟨none, some 6, .mv (.tmp 22)⟩]) .skip))
 (.seq (.seq (.region [⟨none, some 23, .mv (.tmp 1)⟩,
  ⟨none, some 24, .mv (.tmp 5)⟩,
  ⟨none, some 25, .call (.func 164) [(.tmp 23), (.tmp 24)]⟩,
  ⟨none, some 26, .un .not (.tmp 25)⟩])
 (.cond (.tmp 26) (.exit 0) .skip))
 (.region [⟨none, some 27, .mv (.tmp 0)⟩,
  ⟨none, some 28, .mv (.tmp 0)⟩,
  ⟨none, some 29, .lenT (.tmp 28)⟩,
  ⟨none, some 30, .mv (.tmp 6)⟩,
  ⟨none, some 31, .bin .sub (.tmp 29) (.tmp 30)⟩,
  ⟨none, some 32, .slcT (.tmp 27) none (some (.tmp 31))⟩,
  ⟨none, some 0, .mv (.tmp 32)⟩]))))))))
 (.seq (.region [⟨none, some 33, .mv (.tmp 0)⟩,
  ⟨none, some 4, .mv (.tmp 33)⟩])
 .ret))),
 [.tmp 4]⟩
theorem c_strings_trimRightUnicode : compF P0 pf Go.Proofs.Tryz.f148 = some L_strings_trimRightUnicode := by kernel_rfl
/-- internal/stringslite.CutSuffix -/
abbrev n_stringslite_CutSuffix : Nat := 149
def L_stringslite_CutSuffix : LFn := ⟨18, (.seq (.region [⟨none, some 4, .mv (.const (.string ⟨#[]⟩))⟩,
  ⟨none, some 5, .mv (.const (.bool false))⟩])
 (.seq (.seq (.region [⟨none, some 6, .mv (.tmp 0)⟩,
  ⟨none, some 7, .mv (.tmp 1)⟩,
  ⟨none, some 8, .call (.func 166) [(.tmp 6), (.tmp 7)]⟩,
  ⟨none, some 9, .un .not (.tmp 8)⟩])
 (.cond (.tmp 9) (.seq (.region [⟨none, some 10, .mv (.tmp 0)⟩,
  ⟨none, some 4, .mv (.tmp 10)⟩,
  ⟨none, some 5, .mv (.const (.bool false))⟩])
 .ret) .skip))
 (.seq (.region [⟨none, some 11, .mv (.tmp 0)⟩,
  ⟨none, some 12, .mv (.tmp 0)⟩,
  ⟨none, some 13, .lenT (.tmp 12)⟩,
  ⟨none, some 14, .mv (.tmp 1)⟩,
  ⟨none, some 15, .lenT (.tmp 14)⟩,
  ⟨none, some 16, .bin .sub (.tmp 13) (.tmp 15)⟩,
  ⟨none, some 17, .slcT (.tmp 11) none (some (.tmp 16))⟩,
  ⟨none, some 4, .mv (.tmp 17)⟩,
  ⟨none, some 5, .mv (.const (.bool true))⟩])
 .ret))),
 [.tmp 4, .tmp 5]⟩
theorem c_stringslite_CutSuffix : compF P0 pf Go.Proofs.Tryz.f149 = some L_stringslite_CutSuffix := by kernel_rfl
/-- undertow/show.Number -/
abbrev n_show_Number : Nat := 150
def L_show_Number : LFn := ⟨20, (.seq (.region [⟨none, some 2, .mv (.const (.int .i64 0))⟩,
  ⟨none, some 3, .mv (.const (.bool false))⟩])
 (.seq (.region [⟨none, some 7, .mv (.tmp 0)⟩,
  ⟨none, some 8, .call (.func 167) [(.tmp 7), (.const (.int .i64 10)), (.const (.int .i64 64))]⟩,
  ⟨none, some 6, .mv (.tmp 8)⟩,
  ⟨none, some 9, .ext (.tmp 6) 0⟩,
  ⟨none, some 10, .ext (.tmp 6) 1⟩,
  ⟨none, some 4, .mv (.tmp 9)⟩,
  ⟨none, some 5, .mv (.tmp 10)⟩])
 (.seq (.seq (.region [⟨none, some 11, .mv (.tmp 5)⟩,
  ⟨none, some 12, .isNil 1 true (.tmp 11)⟩,
  ⟨none, some 13, .mv (.tmp 12)⟩,
  ⟨some (13, false), some 14, .mv (.tmp 4)⟩,
  ⟨some (13, false), some 15, .call (.func 126) [(.tmp 14), (.const (.int .i64 10))]⟩,
  ⟨some (13, false), some 16, .mv (.tmp 0)⟩,
  ⟨some (13, false), some 17, .bin .neq (.tmp 15) (.tmp 16)⟩,
  ⟨none, some 18, .pick (.tmp 13) (.const (.bool true)) (.tmp 17)⟩])
 (.cond (.tmp 18) (.seq (.region [⟨none, some 2, .mv (.const (.int .i64 0))⟩,
  ⟨none, some 3, .mv (.const (.bool false))⟩])
 .ret) .skip))
 (.seq (.region [⟨none, some 19, .mv (.tmp 4)⟩,
  ⟨none, some 2, .mv (.tmp 19)⟩,
  ⟨none, some 3, .mv (.const (.bool true))⟩])
 .ret)))),
 [.tmp 2, .tmp 3]⟩
theorem c_show_Number : compF P0 pf Go.Proofs.Tryz.f150 = some L_show_Number := by kernel_rfl
/-- undertow/show.guess -/
abbrev n_show_guess : Nat := 151
def L_show_guess : LFn := ⟨149, (.seq (.region [⟨none, some 2, .alloc [.int .i64 0, .int .i64 0, .int .i64 0, .int .i64 0, .int .i64 0, .bool false, .bool false, .int .i64 0, .int .i64 0]⟩])
 (.seq (.region [⟨none, some 11, .mv (.tmp 0)⟩,
  ⟨none, some 12, .call (.func 116) [(.tmp 11), (.const (.string ⟨#[32]⟩))]⟩,
  ⟨none, some 10, .mv (.tmp 12)⟩,
  ⟨none, some 13, .ext (.tmp 10) 0⟩,
  ⟨none, some 14, .ext (.tmp 10) 1⟩,
  ⟨none, some 15, .ext (.tmp 10) 2⟩,
  ⟨none, some 3, .mv (.tmp 13)⟩,
  ⟨none, some 4, .mv (.tmp 14)⟩,
  ⟨none, some 5, .mv (.tmp 15)⟩])
 (.seq (.region [⟨none, some 16, .mv (.tmp 3)⟩,
  ⟨none, some 17, .call (.func 168) [(.tmp 16)]⟩,
  ⟨none, some 6, .alloc [.int .i64 0, .int .i64 0, .int .i64 0, .int .i64 0, .int .i64 0, .bool false, .bool false, .int .i64 0, .int .i64 0]⟩,
  ⟨none, none, .store 9 (.tmp 6) (.tmp 17)⟩])
 (.seq (.seq (.region [⟨none, some 18, .fad 0 (.tmp 6)⟩,
  ⟨none, some 19, .load1 (.tmp 18)⟩,
  ⟨none, some 20, .bin .eql (.tmp 19) (.const (.int .i64 51))⟩])
 (.cond (.tmp 20) (.region [⟨none, some 21, .fad 7 (.tmp 6)⟩,
  ⟨none, none, .store 1 (.tmp 21) (.const (.int .i64 3))⟩,
  ⟨none, some 22, .fad 8 (.tmp 6)⟩,
  ⟨none, none, .store 1 (.tmp 22) (.const (.int .i64 3))⟩]) .skip))
 (.seq (.region [⟨none, some 23, .mv (.tmp 4)⟩,
  ⟨none, some 24, .call (.func 170) [(.tmp 23), (.const (.string ⟨#[41]⟩))]⟩,
  ⟨none, some 25, .call (.func 169) [(.tmp 24)]⟩,
  ⟨none, some 26, .rowM 3 (zeroRow [.string ⟨#[]⟩] 3) [(0, 1, (.const (.string ⟨#[]⟩))), (1, 1, (.const (.string ⟨#[]⟩))), (2, 1, (.const (.string ⟨#[]⟩)))]⟩,
  ⟨none, some 27, .app 1 16 (.tmp 25) (.tmp 26)⟩,
  ⟨none, some 7, .alloc [.slice none 0 0]⟩,
  ⟨none, none, .store 1 (.tmp 7) (.tmp 27)⟩])
 (.seq (.region [⟨none, some 28, .mkf 171 [] [(.tmp 7)]⟩,
  ⟨none, some 8, .mv (.tmp 28)⟩])
 (.seq (.region [⟨none, some 29, .mkf 173 [] [(.tmp 7)]⟩,
  ⟨none, some 9, .mv (.tmp 29)⟩])
 (.seq (.seq (.region [⟨none, some 30, .fad 0 (.tmp 6)⟩,
  ⟨none, some 31, .load1 (.tmp 30)⟩,
  ⟨none, some 32, .call (.func 42) [(.tmp 31)]⟩])
 (.block 0 (.seq (.region [⟨none, some 34, .bin .eql (.tmp 32) (.const (.int .i64 1))⟩,
  ⟨none, some 33, .mv (.tmp 34)⟩])
 (.cond (.tmp 33) (.region [⟨none, some 35, .mv (.tmp 8)⟩,
  ⟨none, some 36, .call (.tmp 35) [(.const (.int .i64 0))]⟩,
  ⟨none, some 37, .mv (.tmp 9)⟩,
  ⟨none, some 38, .call (.tmp 37) [(.const (.int .i64 1))]⟩,
  ⟨none, some 39, .fad 1 (.tmp 6)⟩,
  ⟨none, none, .store 1 (.tmp 39) (.tmp 36)⟩,
  ⟨none, some 40, .fad 4 (.tmp 6)⟩,
  ⟨none, none, .store 1 (.tmp 40) (.tmp 38)⟩]) (.seq (.region [⟨none, some 42, .bin .eql (.tmp 32) (.const (.int .i64 2))⟩,
  ⟨none, some 41, .mv (.tmp 42)⟩])
 (.cond (.tmp 41) (.seq (.region [⟨none, some 43, .mv (.tmp 8)⟩,
  ⟨none, some 44, .call (.tmp 43) [(.const (.int .i64 0))]⟩,
  ⟨none, some 45, .mv (.tmp 9)⟩,
  ⟨none, some 46, .call (.tmp 45) [(.const (.int .i64 1))]⟩,
  ⟨none, some 47, .fad 1 (.tmp 6)⟩,
  ⟨none, none, .store 1 (.tmp 47) (.tmp 44)⟩,
  ⟨none, some 48, .fad 4 (.tmp 6)⟩,
  ⟨none, none, .store 1 (.tmp 48) (.tmp 46)⟩])
 (.seq (.region [⟨none, some 49, .fad 0 (.tmp 6)⟩,
  ⟨none, some 50, .load1 (.tmp 49)⟩,
  ⟨none, some 51, .bin .eql (.tmp 50) (.const (.int .i64 4))⟩])
 (.cond (.tmp 51) (.region [⟨none, some 52, .mv (.tmp 8)⟩,
  ⟨none, some 53, .call (.tmp 52) [(.const (.int .i64 1))]⟩,
  ⟨none, some 54, .mv (.tmp 9)⟩,
  ⟨none, some 55, .call (.tmp 54) [(.const (.int .i64 2))]⟩,
  ⟨none, some 56, .fad 2 (.tmp 6)⟩,
  ⟨none, none, .store 1 (.tmp 56) (.tmp 53)⟩,
  ⟨none, some 57, .fad 4 (.tmp 6)⟩,
  ⟨none, none, .store 1 (.tmp 57) (.tmp 55)⟩]) .skip))) (.seq (.region [⟨none, some 59, .bin .eql (.tmp 32) (.const (.int .i64 6))⟩,
  ⟨none, some 58, .mv (.tmp 59)⟩])
 (.cond (.tmp 58) (.region [⟨none, some 60, .mv (.tmp 8)⟩,
  ⟨none, some 61, .call (.tmp 60) [(.const (.int .i64 0))]⟩,
  ⟨none, some 62, .mv (.tmp 8)⟩,
  ⟨none, some 63, .call (.tmp 62) [(.const (.int .i64 1))]⟩,
  ⟨none, some 64, .mv (.tmp 9)⟩,
  ⟨none, some 65, .call (.tmp 64) [(.const (.int .i64 2))]⟩,
  ⟨none, some 66, .fad 1 (.tmp 6)⟩,
  ⟨none, none, .store 1 (.tmp 66) (.tmp 61)⟩,
  ⟨none, some 67, .fad 2 (.tmp 6)⟩,
  ⟨none, none, .store 1 (.tmp 67) (.tmp 63)⟩,
  ⟨none, some 68, .fad 4 (.tmp 6)⟩,
  ⟨none, none, .store 1 (.tmp 68) (.tmp 65)⟩]) (.seq (.region [⟨none, some 70, .bin .eql (.tmp 32) (.const (.int .i64 3))⟩,
  ⟨none, some 69, .mv (.tmp 70)⟩])
 (.cond (.tmp 69) (.region [⟨none, some 71, .mv (.tmp 8)⟩,
  ⟨none, some 72, .call (.tmp 71) [(.const (.int .i64 0))]⟩,
  ⟨none, some 73, .mv (.tmp 8)⟩,
  ⟨none, some 74, .call (.tmp 73) [(.const (.int .i64 1))]⟩,
  ⟨none, some 75, .mv (.tmp 9)⟩,
  ⟨none, some 76, .call (.tmp 75) [(.const (.int .i64 2))]⟩,
  ⟨none, some 77, .fad 2 (.tmp 6)⟩,
  ⟨none, none, .store 1 (.tmp 77) (.tmp 72)⟩,
  ⟨none, some 78, .fad 3 (.tmp 6)⟩,
  ⟨none, none, .store 1 (.tmp 78) (.tmp 74)⟩,
  ⟨none, some 79, .fad 4 (.tmp 6)⟩,
  ⟨none, none, .store 1 (.tmp 79) (.tmp 76)⟩]) (.seq (.region [⟨none, some 81, .bin .eql (.tmp 32) (.const (.int .i64 4))⟩,
  ⟨none, some 80, .mv (.tmp 81)⟩])
 (.cond (.tmp 80) (.region [⟨none, some 82, .mv (.tmp 8)⟩,
  ⟨none, some 83, .call (.tmp 82) [(.const (.int .i64 0))]⟩,
  ⟨none, some 84, .mv (.tmp 9)⟩,
  ⟨none, some 85, .call (.tmp 84) [(.const (.int .i64 1))]⟩,
  ⟨none, some 86, .mv (.tmp 8)⟩,
  ⟨none, some 87, .call (.tmp 86) [(.const (.int .i64 2))]⟩,
  ⟨none, some 88, .fad 1 (.tmp 6)⟩,
  ⟨none, none, .store 1 (.tmp 88) (.tmp 83)⟩,
  ⟨none, some 89, .fad 4 (.tmp 6)⟩,
  ⟨none, none, .store 1 (.tmp 89) (.tmp 85)⟩,
  ⟨none, some 90, .fad 2 (.tmp 6)⟩,
  ⟨none, none, .store 1 (.tmp 90) (.tmp 87)⟩]) (.seq (.region [⟨none, some 92, .bin .eql (.tmp 32) (.const (.int .i64 5))⟩,
  ⟨none, some 91, .mv (.tmp 92)⟩])
 (.cond (.tmp 91) (.region [⟨none, some 93, .mv (.tmp 8)⟩,
  ⟨none, some 94, .call (.tmp 93) [(.const (.int .i64 0))]⟩,
  ⟨none, some 95, .mv (.tmp 9)⟩,
  ⟨none, some 96, .call (.tmp 95) [(.const (.int .i64 1))]⟩,
  ⟨none, some 97, .mv (.tmp 8)⟩,
  ⟨none, some 98, .call (.tmp 97) [(.const (.int .i64 2))]⟩,
  ⟨none, some 99, .fad 3 (.tmp 6)⟩,
  ⟨none, none, .store 1 (.tmp 99) (.tmp 94)⟩,
  ⟨none, some 100, .fad 4 (.tmp 6)⟩,
  ⟨none, none, .store 1 (.tmp 100) (.tmp 96)⟩,
  ⟨none, some 101, .fad 2 (.tmp 6)⟩,
  ⟨none, none, .store 1 (.tmp 101) (.tmp 98)⟩]) (.seq (.region [⟨none, some 103, .bin .eql (.tmp 32) (.const (.int .i64 7))⟩,
  ⟨none, some 102, .mv (.tmp 103)⟩])
 (.cond (.tmp 102) (.region [⟨none, some 104, .mv (.tmp 8)⟩,
  ⟨none, some 105, .call (.tmp 104) [(.const (.int .i64 0))]⟩,
  ⟨none, some 106, .mv (.tmp 8)⟩,
  ⟨none, some 107, .call (.tmp 106) [(.const (.int .i64 1))]⟩,
  ⟨none, some 108, .mv (.tmp 8)⟩,
  ⟨none, some 109, .call (.tmp 108) [(.const (.int .i64 2))]⟩,
  ⟨none, some 110, .fad 1 (.tmp 6)⟩,
  ⟨none, none, .store 1 (.tmp 110) (.tmp 105)⟩,
  ⟨none, some 111, .fad 2 (.tmp 6)⟩,
  ⟨none, none, .store 1 (.tmp 111) (.tmp 107)⟩,
  ⟨none, some 112, .fad 3 (.tmp 6)⟩,
  ⟨none, none, .store 1 (.tmp 112) (.tmp 109)⟩]) (.seq (.region [⟨none, some 114, .bin .eql (.tmp 32) (.const (.int .i64 8))⟩,
  ⟨none, some 113, .mv (.tmp 114)⟩])
 (.cond (.tmp 113) (.seq (.region [⟨none, some 115, .fad 0 (.tmp 6)⟩,
  ⟨none, some 116, .load1 (.tmp 115)⟩,
  ⟨none, some 117, .bin .eql (.tmp 116) (.const (.int .i64 50))⟩])
 (.cond (.tmp 117) (.region [⟨none, some 118, .load1 (.tmp 7)⟩,
  ⟨none, some 119, .iadS 1 (.tmp 118) (.const (.int .i64 0))⟩,
  ⟨none, some 120, .load1 (.tmp 119)⟩,
  ⟨none, some 121, .call (.func 174) [(.tmp 120)]⟩,
  ⟨none, some 122, .load1 (.tmp 7)⟩,
  ⟨none, some 123, .iadS 1 (.tmp 122) (.const (.int .i64 1))⟩,
  ⟨none, some 124, .load1 (.tmp 123)⟩,
  ⟨none, some 125, .call (.func 174) [(.tmp 124)]⟩,
  ⟨none, some 126, .fad 7 (.tmp 6)⟩,
  ⟨none, none, .store 1 (.tmp 126) (.tmp 121)⟩,
  ⟨none, some 127, .fad 8 (.tmp 6)⟩,
  ⟨none, none, .store 1 (.tmp 127) (.tmp 125)⟩]) .skip)) (.seq (.region [⟨none, some 129, .bin .eql (.tmp 32) (.const (.int .i64 10))⟩,
  ⟨none, some 128, .mv (.tmp 129)⟩])
 (.cond (.tmp 128) (.region [⟨none, some 130, .mv (.tmp 8)⟩,
  ⟨none, some 131, .call (.tmp 130) [(.const (.int .i64 0))]⟩,
  ⟨none, some 132, .mv (.tmp 8)⟩,
  ⟨none, some 133, .call (.tmp 132) [(.const (.int .i64 2))]⟩,
  ⟨none, some 134, .fad 1 (.tmp 6)⟩,
  ⟨none, none, .store 1 (.tmp 134) (.tmp 131)⟩,
  ⟨none, some 135, .fad 2 (.tmp 6)⟩,
  ⟨none, none, .store 1 (.tmp 135) (.tmp 133)⟩]) (.seq (.seq (.region [⟨none, some 137, .bin .eql (.tmp 32) (.const (.int .i64 11))⟩,
  ⟨none, some 136, .mv (.tmp 137)⟩])
 (.cond (.tmp 136) .skip (.region [⟨none, some 138, .bin .eql (.tmp 32) (.const (.int .i64 12))⟩,
  ⟨none, some 136, .mv (.tmp 138)⟩])))
 (.cond (.tmp 136) (.region [⟨none, some 139, .mv (.tmp 8)⟩,
  ⟨none, some 140, .call (.tmp 139) [(.const (.int .i64 0))]⟩,
  ⟨none, some 141, .mv (.tmp 8)⟩,
  ⟨none, some 142, .call (.tmp 141) [(.const (.int .i64 1))]⟩,
  ⟨none, some 143, .mv (.tmp 8)⟩,
  ⟨none, some 144, .call (.tmp 143) [(.const (.int .i64 3))]⟩,
  ⟨none, some 145, .fad 1 (.tmp 6)⟩,
  ⟨none, none, .store 1 (.tmp 145) (.tmp 140)⟩,
  ⟨none, some 146, .fad 3 (.tmp 6)⟩,
  ⟨none, none, .store 1 (.tmp 146) (.tmp 142)⟩,
  ⟨none, some 147, .fad 2 (.tmp 6)⟩,
  ⟨none, none, .store 1 (.tmp 147) (.tmp 144)⟩]) .skip))))))))))))))))))))))
 (.seq (.region [⟨none, some 148, .loadN 9 (.tmp 6)⟩,
  ⟨none, none, .store 9 (.tmp 2) (.tmp 148)⟩])
 .ret))))))))),
 [.cellN 2 9]⟩
theorem c_show_guess : compF P0 pf Go.Proofs.Tryz.f151 = some L_show_guess := by kernel_rfl
/-- strings.LastIndex -/
abbrev n_strings_LastIndex : Nat := 152
def L_strings_LastIndex : LFn := ⟨36, (.seq (.region [⟨none, some 4, .mv (.const (.int .i64 0))⟩])
 (.seq (.region [⟨none, some 6, .mv (.tmp 1)⟩,
  ⟨none, some 7, .lenT (.tmp 6)⟩,
  ⟨none, some 5, .mv (.tmp 7)⟩])
 (.seq (.block 0 (.seq (.region [⟨none, some 9, .mv (.tmp 5)⟩,
  ⟨none, some 10, .bin .eql (.tmp 9) (.const (.int .i64 0))⟩,
  ⟨none, some 8, .mv (.tmp 10)⟩])
 (.cond (.tmp 8) (.seq (.region [⟨none, some 11, .mv (.tmp 0)⟩,
  ⟨none, some 12, .lenT (.tmp 11)⟩,
  ⟨none, some 4, .mv (.tmp 12)⟩])
 .ret) (.seq (.region [⟨none, some 14, .mv (.tmp 5)⟩,
  ⟨none, some 15, .bin .eql (.tmp 14) (.const (.int .i64 1))⟩,
  ⟨none, some 13, .mv (.tmp 15)⟩])
 (.cond (.tmp 13) (.seq (.region [⟨none, some 16, .mv (.tmp 0)⟩,
  ⟨none, some 17, .mv (.tmp 1)⟩,
  ⟨none, some 18, .ixS (.tmp 17) (.const (.int .i64 0))⟩,
  ⟨none, some 19, .call (.func 175) [(.tmp 16), (.tmp 18)]⟩,
  ⟨none, some 4, .mv (.tmp 19)⟩])
 .ret) (.seq (.region [⟨none, some 21, .mv (.tmp 5)⟩,
  ⟨none, some 22, .mv (.tmp 0)⟩,
  ⟨none, some 23, .lenT (.tmp 22)⟩,
  ⟨none, some 24, .bin .eql (.tmp 21) (.tmp 23)⟩,
  ⟨none, some 20, .mv (.tmp 24)⟩])
 (.cond (.tmp 20) (.seq (.seq (.region [⟨none, some 25, .mv (.tmp 1)⟩,
  ⟨none, some 26, .mv (.tmp 0)⟩,
  ⟨none, some 27, .bin .eql (.tmp 25) (.tmp 26)⟩])
 (.cond (.tmp 27) (.seq (.region [⟨none, some 4, .mv (.const (.int .i64 0))⟩])
 .ret) .skip))
 (.seq (.region [⟨none, some 4, .mv (.const (.int .i64 (-1)))⟩])
 .ret)) (.seq (.region [⟨none, some 29, .mv (.tmp 5)⟩,
  ⟨none, some 30, .mv (.tmp 0)⟩,
  ⟨none, some 31, .lenT (.tmp 30)⟩,
  ⟨none, some 32, .bin .gtr (.tmp 29) (.tmp 31)⟩,
  ⟨none, some 28, .mv (.tmp 32)⟩])
 (.cond (.tmp 28) (.seq (.region [⟨none, some 4, .mv (.const (.int .i64 (-1)))⟩])
 .ret) .skip)))))))))
 (.seq (.region [⟨none, some 33, .mv (.tmp 0)⟩,
  ⟨none, some 34, .mv (.tmp 1)⟩,
  ⟨none, some 35, .call (.func 176) [(.tmp 33), (.tmp 34)]⟩,
  ⟨none, some 4, .mv (.tmp 35)⟩])
 .ret)))),
 [.tmp 4]⟩
theorem c_strings_LastIndex : compF P0 pf Go.Proofs.Tryz.f152 = some L_strings_LastIndex := by kernel_rfl
/-- undertow/alu.one -/
abbrev n_alu_one : Nat := 153
def L_alu_one : LFn := ⟨4, (.seq (.region [⟨none, some 2, .mv (.const (.int .u64 0))⟩])
 (.seq (.seq (.region [⟨none, some 3, .mv (.tmp 0)⟩])
 (.cond (.tmp 3) (.seq (.region [⟨none, some 2, .mv (.const (.int .u64 1))⟩])
 .ret) .skip))
 (.seq (.region [⟨none, some 2, .mv (.const (.int .u64 0))⟩])
 .ret))),
 [.tmp 2]⟩
theorem c_alu_one : compF P0 pf Go.Proofs.Tryz.f153 = some L_alu_one := by kernel_rfl
/-- undertow/alu.narrow -/
abbrev n_alu_narrow : Nat := 154
def L_alu_narrow : LFn := ⟨5, (.seq (.region [⟨none, some 2, .mv (.const (.int .u64 0))⟩])
 (.seq (.region [⟨none, some 3, .mv (.tmp 0)⟩,
  ⟨none, some 4, .call (.func 86) [(.tmp 3), (.const (.int .i64 32))]⟩,
  ⟨none, some 2, .mv (.tmp 4)⟩])
 .ret)),
 [.tmp 2]⟩
theorem c_alu_narrow : compF P0 pf Go.Proofs.Tryz.f154 = some L_alu_narrow := by kernel_rfl
/-- undertow/field.layouts -/
abbrev n_field_layouts : Nat := 155
def L_field_layouts : LFn := ⟨24, (.seq (.region [⟨none, some 0, .alloc [.int .i64 0, .int .i64 0, .slice none 0 0, .int .i64 0, .int .i64 0, .slice none 0 0, .int .i64 0, .int .i64 0, .slice none 0 0, .int .i64 0, .int .i64 0, .slice none 0 0, .int .i64 0, .int .i64 0, .slice none 0 0, .int .i64 0, .int .i64 0, .slice none 0 0]⟩])
 (.seq (.region [⟨none, some 1, .build [.int .i64 0, .int .i64 0, .int .i64 0] [(0, 1, (.const (.int .i64 31))), (1, 1, (.const (.int .i64 20))), (2, 1, (.const (.int .i64 0)))]⟩,
  ⟨none, some 2, .row 3 1 (zeroRow [.int .i64 0, .int .i64 0, .int .i64 0] 3) [(0, 3, (.tmp 1))]⟩,
  ⟨none, some 3, .build [.int .i64 0, .int .i64 0, .slice none 0 0] [(0, 1, (.const (.int .i64 12))), (1, 1, (.const (.int .i64 0))), (2, 1, (.tmp 2))]⟩,
  ⟨none, some 4, .build [.int .i64 0, .int .i64 0, .int .i64 0] [(0, 1, (.const (.int .i64 31))), (1, 1, (.const (.int .i64 25))), (2, 1, (.const (.int .i64 5)))]⟩,
  ⟨none, some 5, .build [.int .i64 0, .int .i64 0, .int .i64 0] [(0, 1, (.const (.int .i64 11))), (1, 1, (.const (.int .i64 7))), (2, 1, (.const (.int .i64 0)))]⟩,
  ⟨none, some 6, .row 3 2 (zeroRow [.int .i64 0, .int .i64 0, .int .i64 0] 6) [(0, 3, (.tmp 4)), (3, 3, (.tmp 5))]⟩,
  ⟨none, some 7, .build [.int .i64 0, .int .i64 0, .slice none 0 0] [(0, 1, (.const (.int .i64 12))), (1, 1, (.const (.int .i64 0))), (2, 1, (.tmp 6))]⟩,
  ⟨none, some 8, .build [.int .i64 0, .int .i64 0, .int .i64 0] [(0, 1, (.const (.int .i64 31))), (1, 1, (.const (.int .i64 31))), (2, 1, (.const (.int .i64 12)))]⟩,
  ⟨none, some 9, .build [.int .i64 0, .int .i64 0, .int .i64 0] [(0, 1, (.const (.int .i64 7))), (1, 1, (.const (.int .i64 7))), (2, 1, (.const (.int .i64 11)))]⟩,
  ⟨none, some 10, .build [.int .i64 0, .int .i64 0, .int .i64 0] [(0, 1, (.const (.int .i64 30))), (1, 1, (.const (.int .i64 25))), (2, 1, (.const (.int .i64 5)))]⟩,
  ⟨none, some 11, .build [.int .i64 0, .int .i64 0, .int .i64 0] [(0, 1, (.const (.int .i64 11))), (1, 1, (.const (.int .i64 8))), (2, 1, (.const (.int .i64 1)))]⟩,
  ⟨none, some 12, .row 3 4 (zeroRow [.int .i64 0, .int .i64 0, .int .i64 0] 12) [(0, 3, (.tmp 8)), (3, 3, (.tmp 9)), (6, 3, (.tmp 10)), (9, 3, (.tmp 11))]⟩,
  ⟨none, some 13, .build [.int .i64 0, .int .i64 0, .slice none 0 0] [(0, 1, (.const (.int .i64 13))), (1, 1, (.const (.int .i64 1))), (2, 1, (.tmp 12))]⟩,
  ⟨none, some 14, .build [.int .i64 0, .int .i64 0, .int .i64 0] [(0, 1, (.const (.int .i64 31))), (1, 1, (.const (.int .i64 12))), (2, 1, (.const (.int .i64 12)))]⟩,
  ⟨none, some 15, .row 3 1 (zeroRow [.int .i64 0, .int .i64 0, .int .i64 0] 3) [(0, 3, (.tmp 14))]⟩,
  ⟨none, some 16, .build [.int .i64 0, .int .i64 0, .slice none 0 0] [(0, 1, (.const (.int .i64 32))), (1, 1, (.const (.int .i64 12))), (2, 1, (.tmp 15))]⟩,
  ⟨none, some 17, .build [.int .i64 0, .int .i64 0, .int .i64 0] [(0, 1, (.const (.int .i64 31))), (1, 1, (.const (.int .i64 31))), (2, 1, (.const (.int .i64 20)))]⟩,
  ⟨none, some 18, .build [.int .i64 0, .int .i64 0, .int .i64 0] [(0, 1, (.const (.int .i64 19))), (1, 1, (.const (.int .i64 12))), (2, 1, (.const (.int .i64 12)))]⟩,
  ⟨none, some 19, .build [.int .i64 0, .int .i64 0, .int .i64 0] [(0, 1, (.const (.int .i64 20))), (1, 1, (.const (.int .i64 20))), (2, 1, (.const (.int .i64 11)))]⟩,
  ⟨none, some 20, .build [.int .i64 0, .int .i64 0, .int .i64 0] [(0, 1, (.const (.int .i64 30))), (1, 1, (.const (.int .i64 21))), (2, 1, (.const (.int .i64 1)))]⟩,
  ⟨none, some 21, .row 3 4 (zeroRow [.int .i64 0, .int .i64 0, .int .i64 0] 12) [(0, 3, (.tmp 17)), (3, 3, (.tmp 18)), (6, 3, (.tmp 19)), (9, 3, (.tmp 20))]⟩,
  ⟨none, some 22, .build [.int .i64 0, .int .i64 0, .slice none 0 0] [(0, 1, (.const (.int .i64 21))), (1, 1, (.const (.int .i64 1))), (2, 1, (.tmp 21))]⟩,
  ⟨none, some 23, .build [.int .i64 0, .int .i64 0, .slice none 0 0, .int .i64 0, .int .i64 0, .slice none 0 0, .int .i64 0, .int .i64 0, .slice none 0 0, .int .i64 0, .int .i64 0, .slice none 0 0, .int .i64 0, .int .i64 0, .slice none 0 0, .int .i64 0, .int .i64 0, .slice none 0 0] [(3, 3, (.tmp 3)), (6, 3, (.tmp 7)), (9, 3, (.tmp 13)), (12, 3, (.tmp 16)), (15, 3, (.tmp 22))]⟩,
  ⟨none, none, .store 18 (.tmp 0) (.tmp 23)⟩])
 .ret)),
 [.cellN 0 18]⟩
theorem c_field_layouts : compF P0 pf Go.Proofs.Tryz.f155 = some L_field_layouts := by kernel_rfl
/-- undertow/ops.names -/
abbrev n_ops_names : Nat := 156
def L_ops_names : LFn := ⟨2, (.seq (.region [⟨none, some 0, .alloc [.string ⟨#[]⟩, .string ⟨#[]⟩, .string ⟨#[]⟩, .string ⟨#[]⟩, .string ⟨#[]⟩, .string ⟨#[]⟩, .string ⟨#[]⟩, .string ⟨#[]⟩, .string ⟨#[]⟩, .string ⟨#[]⟩, .string ⟨#[]⟩, .string ⟨#[]⟩, .string ⟨#[]⟩, .string ⟨#[]⟩, .string ⟨#[]⟩, .string ⟨#[]⟩, .string ⟨#[]⟩, .string ⟨#[]⟩, .string ⟨#[]⟩, .string ⟨#[]⟩, .string ⟨#[]⟩, .string ⟨#[]⟩, .string ⟨#[]⟩, .string ⟨#[]⟩, .string ⟨#[]⟩, .string ⟨#[]⟩, .string ⟨#[]⟩, .string ⟨#[]⟩, .string ⟨#[]⟩, .string ⟨#[]⟩, .string ⟨#[]⟩, .string ⟨#[]⟩, .string ⟨#[]⟩, .string ⟨#[]⟩, .string ⟨#[]⟩, .string ⟨#[]⟩, .string ⟨#[]⟩, .string ⟨#[]⟩, .string ⟨#[]⟩, .string ⟨#[]⟩, .string ⟨#[]⟩, .string ⟨#[]⟩, .string ⟨#[]⟩, .string ⟨#[]⟩, .string ⟨#[]⟩, .string ⟨#[]⟩, .string ⟨#[]⟩, .string ⟨#[]⟩, .string ⟨#[]⟩, .string ⟨#[]⟩, .string ⟨#[]⟩, .string ⟨#[]⟩, .string ⟨#[]⟩, .string ⟨#[]⟩, .string ⟨#[]⟩, .string ⟨#[]⟩, .string ⟨#[]⟩, .string ⟨#[]⟩, .string ⟨#[]⟩, .string ⟨#[]⟩, .string ⟨#[]⟩, .string ⟨#[]⟩, .string ⟨#[]⟩, .string ⟨#[]⟩, .string ⟨#[]⟩, .string ⟨#[]⟩, .string ⟨#[]⟩, .string ⟨#[]⟩, .string ⟨#[]⟩, .string ⟨#[]⟩, .string ⟨#[]⟩, .string ⟨#[]⟩, .string ⟨#[]⟩, .string ⟨#[]⟩, .string ⟨#[]⟩, .string ⟨#[]⟩]⟩])
 (.seq (.region [⟨none, some 1, .build [.string ⟨#[]⟩, .string ⟨#[]⟩, .string ⟨#[]⟩, .string ⟨#[]⟩, .string ⟨#[]⟩, .string ⟨#[]⟩, .string ⟨#[]⟩, .string ⟨#[]⟩, .string ⟨#[]⟩, .string ⟨#[]⟩, .string ⟨#[]⟩, .string ⟨#[]⟩, .string ⟨#[]⟩, .string ⟨#[]⟩, .string ⟨#[]⟩, .string ⟨#[]⟩, .string ⟨#[]⟩, .string ⟨#[]⟩, .string ⟨#[]⟩, .string ⟨#[]⟩, .string ⟨#[]⟩, .string ⟨#[]⟩, .string ⟨#[]⟩, .string ⟨#[]⟩, .string ⟨#[]⟩, .string ⟨#[]⟩, .string ⟨#[]⟩, .string ⟨#[]⟩, .string ⟨#[]⟩, .string ⟨#[]⟩, .string ⟨#[]⟩, .string ⟨#[]⟩, .string ⟨#[]⟩, .string ⟨#[]⟩, .string ⟨#[]⟩, .string ⟨#[]⟩, .string ⟨#[]⟩, .string ⟨#[]⟩, .string ⟨#[]⟩, .string ⟨#[]⟩, .string ⟨#[]⟩, .string ⟨#[]⟩, .string ⟨#[]⟩, .string ⟨#[]⟩, .string ⟨#[]⟩, .string ⟨#[]⟩, .string ⟨#[]⟩, .string ⟨#[]⟩, .string ⟨#[]⟩, .string ⟨#[]⟩, .string ⟨#[]⟩, .string ⟨#[]⟩, .string ⟨#[]⟩, .string ⟨#[]⟩, .string ⟨#[]⟩, .string ⟨#[]⟩, .string ⟨#[]⟩, .string ⟨#[]⟩, .string ⟨#[]⟩, .string ⟨#[]⟩, .string ⟨#[]⟩, .string ⟨#[]⟩, .string ⟨#[]⟩, .string ⟨#[]⟩, .string ⟨#[]⟩, .string ⟨#[]⟩, .string ⟨#[]⟩, .string ⟨#[]⟩, .string ⟨#[]⟩, .string ⟨#[]⟩, .string ⟨#[]⟩, .string ⟨#[]⟩, .string ⟨#[]⟩, .string ⟨#[]⟩, .string ⟨#[]⟩, .string ⟨#[]⟩] [(0, 1, (.const (.string ⟨#[]⟩))), (1, 1, (.const (.string ⟨#[108, 117, 105]⟩))), (2, 1, (.const (.string ⟨#[97, 117, 105, 112, 99]⟩))), (3, 1, (.const (.string ⟨#[106, 97, 108]⟩))), (4, 1, (.const (.string ⟨#[106, 97, 108, 114]⟩))), (5, 1, (.const (.string ⟨#[98, 101, 113]⟩))), (6, 1, (.const (.string ⟨#[98, 110, 101]⟩))), (7, 1, (.const (.string ⟨#[98, 108, 116]⟩))), (8, 1, (.const (.string ⟨#[98, 103, 101]⟩))), (9, 1, (.const (.string ⟨#[98, 108, 116, 117]⟩))), (10, 1, (.const (.string ⟨#[98, 103, 101, 117]⟩))), (11, 1, (.const (.string ⟨#[108, 98]⟩))), (12, 1, (.const (.string ⟨#[108, 104]⟩))), (13, 1, (.const (.string ⟨#[108, 119]⟩))), (14, 1, (.const (.string ⟨#[108, 100]⟩))), (15, 1, (.const (.string ⟨#[108, 98, 117]⟩))), (16, 1, (.const (.string ⟨#[108, 104, 117]⟩))), (17, 1, (.const (.string ⟨#[108, 119, 117]⟩))), (18, 1, (.const (.string ⟨#[115, 98]⟩))), (19, 1, (.const (.string ⟨#[115, 104]⟩))), (20, 1, (.const (.string ⟨#[115, 119]⟩))), (21, 1, (.const (.string ⟨#[115, 100]⟩))), (22, 1, (.const (.string ⟨#[97, 100, 100, 105]⟩))), (23, 1, (.const (.string ⟨#[115, 108, 116, 105]⟩))), (24, 1, (.const (.string ⟨#[115, 108, 116, 105, 117]⟩))), (25, 1, (.const (.string ⟨#[120, 111, 114, 105]⟩))), (26, 1, (.const (.string ⟨#[111, 114, 105]⟩))), (27, 1, (.const (.string ⟨#[97, 110, 100, 105]⟩))), (28, 1, (.const (.string ⟨#[115, 108, 108, 105]⟩))), (29, 1, (.const (.string ⟨#[115, 114, 108, 105]⟩))), (30, 1, (.const (.string ⟨#[115, 114, 97, 105]⟩))), (31, 1, (.const (.string ⟨#[97, 100, 100, 105, 119]⟩))), (32, 1, (.const (.string ⟨#[115, 108, 108, 105, 119]⟩))), (33, 1, (.const (.string ⟨#[115, 114, 108, 105, 119]⟩))), (34, 1, (.const (.string ⟨#[115, 114, 97, 105, 119]⟩))), (35, 1, (.const (.string ⟨#[97, 100, 100]⟩))), (36, 1, (.const (.string ⟨#[115, 117, 98]⟩))), (37, 1, (.const (.string ⟨#[115, 108, 108]⟩))), (38, 1, (.const (.string ⟨#[115, 108, 116]⟩))), (39, 1, (.const (.string ⟨#[115, 108, 116, 117]⟩))), (40, 1, (.const (.string ⟨#[120, 111, 114]⟩))), (41, 1, (.const (.string ⟨#[115, 114, 108]⟩))), (42, 1, (.const (.string ⟨#[115, 114, 97]⟩))), (43, 1, (.const (.string ⟨#[111, 114]⟩))), (44, 1, (.const (.string ⟨#[97, 110, 100]⟩))), (45, 1, (.const (.string ⟨#[97, 100, 100, 119]⟩))), (46, 1, (.const (.string ⟨#[115, 117, 98, 119]⟩))), (47, 1, (.const (.string ⟨#[115, 108, 108, 119]⟩))), (48, 1, (.const (.string ⟨#[115, 114, 108, 119]⟩))), (49, 1, (.const (.string ⟨#[115, 114, 97, 119]⟩))), (50, 1, (.const (.string ⟨#[102, 101, 110, 99, 101]⟩))), (51, 1, (.const (.string ⟨#[102, 101, 110, 99, 101, 46, 116, 115, 111]⟩))), (52, 1, (.const (.string ⟨#[101, 99, 97, 108, 108]⟩))), (53, 1, (.const (.string ⟨#[101, 98, 114, 101, 97, 107]⟩))), (54, 1, (.const (.string ⟨#[108, 114, 46, 119]⟩))), (55, 1, (.const (.string ⟨#[108, 114, 46, 100]⟩))), (56, 1, (.const (.string ⟨#[115, 99, 46, 119]⟩))), (57, 1, (.const (.string ⟨#[115, 99, 46, 100]⟩))), (58, 1, (.const (.string ⟨#[97, 109, 111, 115, 119, 97, 112, 46, 119]⟩))), (59, 1, (.const (.string ⟨#[97, 109, 111, 97, 100, 100, 46, 119]⟩))), (60, 1, (.const (.string ⟨#[97, 109, 111, 120, 111, 114, 46, 119]⟩))), (61, 1, (.const (.string ⟨#[97, 109, 111, 97, 110, 100, 46, 119]⟩))), (62, 1, (.const (.string ⟨#[97, 109, 111, 111, 114, 46, 119]⟩))), (63, 1, (.const (.string ⟨#[97, 109, 111, 109, 105, 110, 46, 119]⟩))), (64, 1, (.const (.string ⟨#[97, 109, 111, 109, 97, 120, 46, 119]⟩))), (65, 1, (.const (.string ⟨#[97, 109, 111, 109, 105, 110, 117, 46, 119]⟩))), (66, 1, (.const (.string ⟨#[97, 109, 111, 109, 97, 120, 117, 46, 119]⟩))), (67, 1, (.const (.string ⟨#[97, 109, 111, 115, 119, 97, 112, 46, 100]⟩))), (68, 1, (.const (.string ⟨#[97, 109, 111, 97, 100, 100, 46, 100]⟩))), (69, 1, (.const (.string ⟨#[97, 109, 111, 120, 111, 114, 46, 100]⟩))), (70, 1, (.const (.string ⟨#[97, 109, 111, 97, 110, 100, 46, 100]⟩))), (71, 1, (.const (.string ⟨#[97, 109, 111, 111, 114, 46, 100]⟩))), (72, 1, (.const (.string ⟨#[97, 109, 111, 109, 105, 110, 46, 100]⟩))), (73, 1, (.const (.string ⟨#[97, 109, 111, 109, 97, 120, 46, 100]⟩))), (74, 1, (.const (.string ⟨#[97, 109, 111, 109, 105, 110, 117, 46, 100]⟩))), (75, 1, (.const (.string ⟨#[97, 109, 111, 109, 97, 120, 117, 46, 100]⟩)))]⟩,
  ⟨none, none, .store 76 (.tmp 0) (.tmp 1)⟩])
 .ret)),
 [.cellN 0 76]⟩
theorem c_ops_names : compF P0 pf Go.Proofs.Tryz.f156 = some L_ops_names := by kernel_rfl
/-- (*strings.asciiSet).contains -/
abbrev n_strings_asciiSet_contains : Nat := 163
def L_strings_asciiSet_contains : LFn := ⟨10, (.seq (.region [⟨none, some 4, .mv (.const (.bool false))⟩])
 (.seq (.region [⟨none, some 5, .mv (.tmp 0)⟩,
  ⟨none, some 6, .mv (.tmp 1)⟩,
  ⟨none, some 7, .nilchk (.tmp 5)⟩,
  ⟨none, some 8, .iadA 256 1 (.tmp 7) (.tmp 6)⟩,
  ⟨none, some 9, .load1 (.tmp 8)⟩,
  ⟨none, some 4, .mv (.tmp 9)⟩])
 .ret)),
 [.tmp 4]⟩
theorem c_strings_asciiSet_contains : compF P0 pf Go.Proofs.Tryz.f163 = some L_strings_asciiSet_contains := by kernel_rfl
/-- strings.ContainsRune -/
abbrev n_strings_ContainsRune : Nat := 164
def L_strings_ContainsRune : LFn := ⟨9, (.seq (.region [⟨none, some 4, .mv (.const (.bool false))⟩])
 (.seq (.region [⟨none, some 5, .mv (.tmp 0)⟩,
  ⟨none, some 6, .mv (.tmp 1)⟩,
  ⟨none, some 7, .call (.func 183) [(.tmp 5), (.tmp 6)]⟩,
  ⟨none, some 8, .bin .geq (.tmp 7) (.const (.int .i64 0))⟩,
  ⟨none, some 4, .mv (.tmp 8)⟩])
 .ret)),
 [.tmp 4]⟩
theorem c_strings_ContainsRune : compF P0 pf Go.Proofs.Tryz.f164 = some L_strings_ContainsRune := by kernel_rfl
/-- unicode/utf8.DecodeLastRuneInString -/
abbrev n_unicode_utf8_DecodeLastRuneInString : Nat := 165
def L_unicode_utf8_DecodeLastRuneInString : LFn := ⟨51, (.seq (.region [⟨none, some 2, .mv (.const (.int .i32 0))⟩,
  ⟨none, some 3, .mv (.const (.int .i64 0))⟩])
 (.seq (.region [⟨none, some 7, .mv (.tmp 0)⟩,
  ⟨none, some 8, .lenT (.tmp 7)⟩,
  ⟨none, some 4, .mv (.tmp 8)⟩])
 (.seq (.seq (.region [⟨none, some 9, .mv (.tmp 4)⟩,
  ⟨none, some 10, .bin .eql (.tmp 9) (.const (.int .i64 0))⟩])
 (.cond (.tmp 10) (.seq (.region [⟨none, some 2, .mv (.const (.int .i32 65533))⟩,
  ⟨none, some 3, .mv (.const (.int .i64 0))⟩])
 .ret) .skip))
 (.seq (.region [⟨none, some 11, .mv (.tmp 4)⟩,
  ⟨none, some 12, .bin .sub (.tmp 11) (.const (.int .i64 1))⟩,
  ⟨none, some 5, .mv (.tmp 12)⟩])
 (.seq (.region [⟨none, some 13, .mv (.tmp 0)⟩,
  ⟨none, some 14, .mv (.tmp 5)⟩,
  ⟨none, some 15, .ixS (.tmp 13) (.tmp 14)⟩,
  ⟨none, some 16, .convI .i32 (.tmp 15)⟩,
  ⟨none, some 2, .mv (.tmp 16)⟩])
 (.seq (.seq (.region [⟨none, some 17, .mv (.tmp 2)⟩,
  ⟨none, some 18, .bin .lss (.tmp 17) (.const (.int .i32 128))⟩])
 (.cond (.tmp 18) (.seq (.region [⟨none, some 19, .mv (.tmp 2)⟩,
  ⟨none, some 2, .mv (.tmp 19)⟩,
  ⟨none, some 3, .mv (.const (.int .i64 1))⟩])
 .ret) .skip))
 (.seq (.region [⟨none, some 20, .mv (.tmp 4)⟩,
  ⟨none, some 21, .bin .sub (.tmp 20) (.const (.int .i64 4))⟩,
  ⟨none, some 22, .mx (.tmp 21) (.const (.int .i64 0))⟩,
  ⟨none, some 6, .mv (.tmp 22)⟩])
 (.seq (.seq (.region [⟨none, some 23, .mv (.tmp 5)⟩,
  ⟨none, some 24, .bin .sub (.tmp 23) (.const (.int .i64 1))⟩,
  ⟨none, some 5, .mv (.tmp 24)⟩])
 (.block 0 (.loop (.seq (.seq (.region [⟨none, some 25, .mv (.tmp 5)⟩,
  ⟨none, some 26, .mv (.tmp 6)⟩,
  ⟨none, some 27, .bin .geq (.tmp 25) (.tmp 26)⟩])
 (.cond (.tmp 27) .skip (.exit 0)))
 (.seq (.block 1 (.seq (.region [⟨none, some 30, .mv (.tmp 0)⟩,
  ⟨none, some 31, .mv (.tmp 5)⟩,
  ⟨none, some 32, .ixS (.tmp 30) (.tmp 31)⟩,
  ⟨none, some 33, .call (.func 184) [(.tmp 32)]⟩])
 (.cond (.tmp 33) (.exit 0) .skip)))
 (.region [⟨none, some 28, .mv (.tmp 5)⟩,
  ⟨none, some 29, .bin .sub (.tmp 28) (.const (.int .i64 1))⟩,
  ⟨none, some 5, .mv (.tmp 29)⟩]))))))
 (.seq (.seq (.region [⟨none, some 34, .mv (.tmp 5)⟩,
  ⟨none, some 35, .bin .lss (.tmp 34) (.const (.int .i64 0))⟩])
 (.cond (.tmp 35) (.region [⟨none, some 5, .mv (.const (.int .i64 0))⟩]) .skip))
 (.seq (.region [⟨none, some 37, .mv (.tmp 0)⟩,
  ⟨none, some 38, .mv (.tmp 5)⟩,
  ⟨none, some 39, .mv (.tmp 4)⟩,
  ⟨none, some 40, .slcT (.tmp 37) (some (.tmp 38)) (some (.tmp 39))⟩,
  ⟨none, some 41, .call (.func 139) [(.tmp 40)]⟩,
  ⟨none, some 36, .mv (.tmp 41)⟩,
  ⟨none, some 42, .ext (.tmp 36) 0⟩,
  ⟨none, some 43, .ext (.tmp 36) 1⟩,
  ⟨none, some 2, .mv (.tmp 42)⟩,
  ⟨none, some 3, .mv (.tmp 43)⟩])
 (.seq (.seq (.region [⟨none, some 44, .mv (.tmp 5)⟩,
  ⟨none, some 45, .mv (.tmp 3)⟩,
  ⟨none, some 46, .bin .add (.tmp 44) (.tmp 45)⟩,
  ⟨none, some 47, .mv (.tmp 4)⟩,
  ⟨none, some 48, .bin .neq (.tmp 46) (.tmp 47)⟩])
 (.cond (.tmp 48) (.seq (.region [⟨none, some 2, .mv (.const (.int .i32 65533))⟩,
  ⟨none, some 3, .mv (.const (.int .i64 1))⟩])
 .ret) .skip))
 (.seq (.region [⟨none, some 49, .mv (.tmp 2)⟩,
  ⟨none, some 50, .mv (.tmp 3)⟩,
  ⟨none, some 2, .mv (.tmp 49)⟩,
  ⟨none, some 3, .mv (.tmp 50)⟩])
 .ret)))))))))))),
 [.tmp 2, .tmp 3]⟩
theorem c_unicode_utf8_DecodeLastRuneInString : compF P0 pf Go.Proofs.Tryz.f165 = some L_unicode_utf8_DecodeLastRuneInString := by kernel_rfl
/-- internal/stringslite.HasSuffix -/
abbrev n_stringslite_HasSuffix : Nat := 166
def L_stringslite_HasSuffix : LFn := ⟨21, (.seq (.region [⟨none, some 4, .mv (.const (.bool false))⟩])
 (.seq (.region [⟨none, some 5, .mv (.tmp 0)⟩,
  ⟨none, some 6, .lenT (.tmp 5)⟩,
  ⟨none, some 7, .mv (.tmp 1)⟩,
  ⟨none, some 8, .lenT (.tmp 7)⟩,
  ⟨none, some 9, .bin .geq (.tmp 6) (.tmp 8)⟩,
  ⟨none, some 10, .mv (.tmp 9)⟩,
  ⟨some (10, true), some 11, .mv (.tmp 0)⟩,
  ⟨some (10, true), some 12, .mv (.tmp 0)⟩,
  ⟨some (10, true), some 13, .lenT (.tmp 12)⟩,
  ⟨some (10, true), some 14, .mv (.tmp 1)⟩,
  ⟨some (10, true), some 15, .lenT (.tmp 14)⟩,
  ⟨some (10, true), some 16, .bin .sub (.tmp 13) (.tmp 15)⟩,
  ⟨some (10, true), some 17, .slcT (.tmp 11) (some (.tmp 16)) none⟩,
  ⟨some (10, true), some 18, .mv (.tmp 1)⟩,
  ⟨some (10, true), some 19, .bin .eql (.tmp 17) (.tmp 18)⟩,
  ⟨none, some 20, .pick (.tmp 10) (.tmp 19) (.const (.bool false))⟩,
  ⟨none, some 4, .mv (.tmp 20)⟩])
 .ret)),
 [.tmp 4]⟩
theorem c_stringslite_HasSuffix : compF P0 pf Go.Proofs.Tryz.f166 = some L_stringslite_HasSuffix := by kernel_rfl
/-- undertow/show.operation -/
abbrev n_show_operation : Nat := 168
def L_show_operation : LFn := ⟨33, (.seq (.region [⟨none, some 2, .alloc [.int .i64 0, .int .i64 0, .int .i64 0, .int .i64 0, .int .i64 0, .bool false, .bool false, .int .i64 0, .int .i64 0]⟩])
 (.seq (.seq (.region [⟨none, some 7, .build [.string ⟨#[]⟩, .bool false, .bool false] [(0, 1, (.const (.string ⟨#[46, 97, 113, 114, 108]⟩))), (1, 1, (.const (.bool true))), (2, 1, (.const (.bool true)))]⟩,
  ⟨none, some 8, .build [.string ⟨#[]⟩, .bool false, .bool false] [(0, 1, (.const (.string ⟨#[46, 97, 113]⟩))), (1, 1, (.const (.bool true))), (2, 1, (.const (.bool false)))]⟩,
  ⟨none, some 9, .build [.string ⟨#[]⟩, .bool false, .bool false] [(0, 1, (.const (.string ⟨#[46, 114, 108]⟩))), (1, 1, (.const (.bool false))), (2, 1, (.const (.bool true)))]⟩,
  ⟨none, some 10, .build [.string ⟨#[]⟩, .bool false, .bool false, .string ⟨#[]⟩, .bool false, .bool false, .string ⟨#[]⟩, .bool false, .bool false] [(0, 3, (.tmp 7)), (3, 3, (.tmp 8)), (6, 3, (.tmp 9))]⟩,
  ⟨none, some 11, .mv (.const (.int .i64 0))⟩])
 (.block 0 (.loop (.seq (.region [⟨none, some 12, .bin .lss (.tmp 11) (.const (.int .i64 3))⟩])
 (.seq (.cond (.tmp 12) .skip (.exit 0))
 (.seq (.block 1 (.seq (.region [⟨none, some 13, .ixN 3 3 (.tmp 10) (.tmp 11)⟩,
  ⟨none, some 4, .alloc [.string ⟨#[]⟩, .bool false, .bool false]⟩,
  ⟨none, none, .store 3 (.tmp 4) (.tmp 13)⟩])
 (.seq (.region [⟨none, some 15, .mv (.tmp 0)⟩,
  ⟨none, some 16, .fad 0 (.tmp 4)⟩,
  ⟨none, some 17, .load1 (.tmp 16)⟩,
  ⟨none, some 18, .call (.func 118) [(.tmp 15), (.tmp 17)]⟩,
  ⟨none, some 14, .mv (.tmp 18)⟩,
  ⟨none, some 19, .ext (.tmp 14) 0⟩,
  ⟨none, some 20, .ext (.tmp 14) 1⟩,
  ⟨none, some 5, .mv (.tmp 19)⟩,
  ⟨none, some 6, .mv (.tmp 20)⟩])
 (.seq (.region [⟨none, some 21, .mv (.tmp 6)⟩])
 (.cond (.tmp 21) (.seq (.region [⟨none, some 22, .mv (.tmp 5)⟩,
  ⟨none, some 23, .call (.func 187) [(.tmp 22)]⟩,
  ⟨none, some 24, .fad 1 (.tmp 4)⟩,
  ⟨none, some 25, .load1 (.tmp 24)⟩,
  ⟨none, some 26, .fad 2 (.tmp 4)⟩,
  ⟨none, some 27, .load1 (.tmp 26)⟩,
  ⟨none, some 28, .build [.int .i64 0, .int .i64 0, .int .i64 0, .int .i64 0, .int .i64 0, .bool false, .bool false, .int .i64 0, .int .i64 0] [(0, 1, (.tmp 23)), (5, 1, (.tmp 25)), (6, 1, (.tmp 27))]⟩,
  ⟨none, none, .store 9 (.tmp 2) (.tmp 28)⟩])
 .ret) .skip)))))
 (.region [⟨none, some 29, .bin .add (.tmp 11) (.const (.int .i64 1))⟩,
  ⟨none, some 11, .mv (.tmp 29)⟩])))))))
 (.seq (.region [⟨none, some 30, .mv (.tmp 0)⟩,
  ⟨none, some 31, .call (.func 187) [(.tmp 30)]⟩,
  ⟨none, some 32, .build [.int .i64 0, .int .i64 0, .int .i64 0, .int .i64 0, .int .i64 0, .bool false, .bool false, .int .i64 0, .int .i64 0] [(0, 1, (.tmp 31))]⟩,
  ⟨none, none, .store 9 (.tmp 2) (.tmp 32)⟩])
 .ret))),
 [.cellN 2 9]⟩
theorem c_show_operation : compF P0 pf Go.Proofs.Tryz.f168 = some L_show_operation := by kernel_rfl
/-- undertow/show.cut -/
abbrev n_show_cut : Nat := 169
def L_show_cut : LFn := ⟨52, (.seq (.region [⟨none, some 2, .mv (.const (.slice none 0 0))⟩])
 (.seq (.region [⟨none, some 3, .mv (.const (.slice none 0 0))⟩])
 (.seq (.region [⟨none, some 4, .mv (.const (.int .i64 0))⟩])
 (.seq .skip
 (.seq (.seq (.region [⟨none, some 5, .mv (.const (.int .i64 0))⟩])
 (.block 0 (.loop (.seq (.seq (.region [⟨none, some 6, .mv (.tmp 5)⟩,
  ⟨none, some 7, .mv (.tmp 0)⟩,
  ⟨none, some 8, .lenT (.tmp 7)⟩,
  ⟨none, some 9, .bin .leq (.tmp 6) (.tmp 8)⟩])
 (.cond (.tmp 9) .skip (.exit 0)))
 (.seq (.block 1 (.block 2 (.seq (.region [⟨none, some 13, .mv (.tmp 5)⟩,
  ⟨none, some 14, .mv (.tmp 0)⟩,
  ⟨none, some 15, .lenT (.tmp 14)⟩,
  ⟨none, some 16, .bin .eql (.tmp 13) (.tmp 15)⟩,
  ⟨none, some 12, .mv (.tmp 16)⟩])
 (.cond (.tmp 12) (.seq (.region [⟨none, some 17, .mv (.tmp 3)⟩,
  ⟨none, some 18, .mv (.tmp 0)⟩,
  ⟨none, some 19, .mv (.tmp 4)⟩,
  ⟨none, some 20, .slcT (.tmp 18) (some (.tmp 19)) none⟩,
  ⟨none, some 21, .rowM 1 (zeroRow [.string ⟨#[]⟩] 1) [(0, 1, (.tmp 20))]⟩,
  ⟨none, some 22, .app 1 16 (.tmp 17) (.tmp 21)⟩,
  ⟨none, some 3, .mv (.tmp 22)⟩])
 (.exit 0)) (.seq (.region [⟨none, some 24, .mv (.tmp 0)⟩,
  ⟨none, some 25, .mv (.tmp 5)⟩,
  ⟨none, some 26, .slcT (.tmp 24) (some (.tmp 25)) none⟩,
  ⟨none, some 27, .call (.func 188) [(.tmp 26), (.const (.string ⟨#[44, 32]⟩))]⟩,
  ⟨none, some 23, .mv (.tmp 27)⟩])
 (.cond (.tmp 23) (.seq (.region [⟨none, some 28, .mv (.tmp 3)⟩,
  ⟨none, some 29, .mv (.tmp 0)⟩,
  ⟨none, some 30, .mv (.tmp 4)⟩,
  ⟨none, some 31, .mv (.tmp 5)⟩,
  ⟨none, some 32, .slcT (.tmp 29) (some (.tmp 30)) (some (.tmp 31))⟩,
  ⟨none, some 33, .rowM 1 (zeroRow [.string ⟨#[]⟩] 1) [(0, 1, (.tmp 32))]⟩,
  ⟨none, some 34, .app 1 16 (.tmp 28) (.tmp 33)⟩,
  ⟨none, some 3, .mv (.tmp 34)⟩])
 (.region [⟨none, some 35, .mv (.tmp 5)⟩,
  ⟨none, some 36, .bin .add (.tmp 35) (.const (.int .i64 2))⟩,
  ⟨none, some 4, .mv (.tmp 36)⟩])) (.seq (.region [⟨none, some 38, .mv (.tmp 0)⟩,
  ⟨none, some 39, .mv (.tmp 5)⟩,
  ⟨none, some 40, .ixS (.tmp 38) (.tmp 39)⟩,
  ⟨none, some 41, .bin .eql (.tmp 40) (.const (.int .u8 40))⟩,
  ⟨none, some 37, .mv (.tmp 41)⟩])
 (.cond (.tmp 37) (.seq (.region [⟨none, some 42, .mv (.tmp 3)⟩,
  ⟨none, some 43, .mv (.tmp 0)⟩,
  ⟨none, some 44, .mv (.tmp 4)⟩,
  ⟨none, some 45, .mv (.tmp 5)⟩,
  ⟨none, some 46, .slcT (.tmp 43) (some (.tmp 44)) (some (.tmp 45))⟩,
  ⟨none, some 47, .rowM 1 (zeroRow [.string ⟨#[]⟩] 1) [(0, 1, (.tmp 46))]⟩,
  ⟨none, some 48, .app 1 16 (.tmp 42) (.tmp 47)⟩,
  ⟨none, some 3, .mv (.tmp 48)⟩])
 (.region [⟨none, some 49, .mv (.tmp 5)⟩,
  ⟨none, some 50, .bin .add (.tmp 49) (.const (.int .i64 1))⟩,
  ⟨none, some 4, .mv (.tmp 50)⟩])) .skip))))))))
 (.region [⟨none, some 10, .mv (.tmp 5)⟩,
  ⟨none, some 11, .bin .add (.tmp 10) (.const (.int .i64 1))⟩,
  ⟨none, some 5, .mv (.tmp 11)⟩]))))))
 (.seq (.region [⟨none, some 51, .mv (.tmp 3)⟩,
  ⟨none, some 2, .mv (.tmp 51)⟩])
 .ret)))))),
 [.tmp 2]⟩
theorem c_show_cut : compF P0 pf Go.Proofs.Tryz.f169 = some L_show_cut := by kernel_rfl
/-- strings.TrimSuffix -/
abbrev n_strings_TrimSuffix : Nat := 170
def L_strings_TrimSuffix : LFn := ⟨8, (.seq (.region [⟨none, some 4, .mv (.const (.string ⟨#[]⟩))⟩])
 (.seq (.region [⟨none, some 5, .mv (.tmp 0)⟩,
  ⟨none, some 6, .mv (.tmp 1)⟩,
  ⟨none, some 7, .call (.func 189) [(.tmp 5), (.tmp 6)]⟩,
  ⟨none, some 4, .mv (.tmp 7)⟩])
 .ret)),
 [.tmp 4]⟩
theorem c_strings_TrimSuffix : compF P0 pf Go.Proofs.Tryz.f170 = some L_strings_TrimSuffix := by kernel_rfl
/-- undertow/show.guess$1 -/
abbrev n_show_guess_1 : Nat := 171
def L_show_guess_1 : LFn := ⟨15, (.seq (.region [⟨none, some 3, .mv (.const (.int .i64 0))⟩])
 (.seq (.region [⟨none, some 7, .load1 (.tmp 1)⟩,
  ⟨none, some 8, .mv (.tmp 0)⟩,
  ⟨none, some 9, .iadS 1 (.tmp 7) (.tmp 8)⟩,
  ⟨none, some 10, .load1 (.tmp 9)⟩,
  ⟨none, some 11, .call (.func 172) [(.tmp 10)]⟩,
  ⟨none, some 6, .mv (.tmp 11)⟩,
  ⟨none, some 12, .ext (.tmp 6) 0⟩,
  ⟨none, some 13, .ext (.tmp 6) 1⟩,
  ⟨none, some 4, .mv (.tmp 12)⟩,
  ⟨none, some 5, .mv (.tmp 13)⟩])
 (.seq (.region [⟨none, some 14, .mv (.tmp 4)⟩,
  ⟨none, some 3, .mv (.tmp 14)⟩])
 .ret))),
 [.tmp 3]⟩
theorem c_show_guess_1 : compF P0 pf Go.Proofs.Tryz.f171 = some L_show_guess_1 := by kernel_rfl
/-- undertow/show.Register -/
abbrev n_show_Register : Nat := 172
def L_show_Register : LFn := ⟨33, (.seq (.region [⟨none, some 2, .mv (.const (.int .i64 0))⟩,
  ⟨none, some 3, .mv (.const (.bool false))⟩])
 (.seq (.region [⟨none, some 9, .mv (.tmp 0)⟩,
  ⟨none, some 10, .call (.func 190) [(.tmp 9), (.const (.string ⟨#[120]⟩))]⟩,
  ⟨none, some 8, .mv (.tmp 10)⟩,
  ⟨none, some 11, .ext (.tmp 8) 0⟩,
  ⟨none, some 12, .ext (.tmp 8) 1⟩,
  ⟨none, some 4, .mv (.tmp 11)⟩,
  ⟨none, some 5, .mv (.tmp 12)⟩])
 (.seq (.region [⟨none, some 14, .mv (.tmp 4)⟩,
  ⟨none, some 15, .call (.func 150) [(.tmp 14)]⟩,
  ⟨none, some 13, .mv (.tmp 15)⟩,
  ⟨none, some 16, .ext (.tmp 13) 0⟩,
  ⟨none, some 17, .ext (.tmp 13) 1⟩,
  ⟨none, some 6, .mv (.tmp 16)⟩,
  ⟨none, some 7, .mv (.tmp 17)⟩])
 (.seq (.seq (.region [⟨none, some 18, .mv (.tmp 5)⟩,
  ⟨none, some 19, .un .not (.tmp 18)⟩,
  ⟨none, some 20, .mv (.tmp 19)⟩,
  ⟨some (20, false), some 21, .mv (.tmp 7)⟩,
  ⟨some (20, false), some 22, .un .not (.tmp 21)⟩,
  ⟨none, some 23, .pick (.tmp 20) (.const (.bool true)) (.tmp 22)⟩,
  ⟨none, some 24, .mv (.tmp 23)⟩,
  ⟨some (24, false), some 25, .mv (.tmp 6)⟩,
  ⟨some (24, false), some 26, .bin .lss (.tmp 25) (.const (.int .i64 0))⟩,
  ⟨none, some 27, .pick (.tmp 24) (.const (.bool true)) (.tmp 26)⟩,
  ⟨none, some 28, .mv (.tmp 27)⟩,
  ⟨some (28, false), some 29, .mv (.tmp 6)⟩,
  ⟨some (28, false), some 30, .bin .gtr (.tmp 29) (.const (.int .i64 31))⟩,
  ⟨none, some 31, .pick (.tmp 28) (.const (.bool true)) (.tmp 30)⟩])
 (.cond (.tmp 31) (.seq (.region [⟨none, some 2, .mv (.const (.int .i64 0))⟩,
  ⟨none, some 3, .mv (.const (.bool false))⟩])
 .ret) .skip))
 (.seq (.region [⟨none, some 32, .mv (.tmp 6)⟩,
  ⟨none, some 2, .mv (.tmp 32)⟩,
  ⟨none, some 3, .mv (.const (.bool true))⟩])
 .ret))))),
 [.tmp 2, .tmp 3]⟩
theorem c_show_Register : compF P0 pf Go.Proofs.Tryz.f172 = some L_show_Register := by kernel_rfl
/-- undertow/show.guess$2 -/
abbrev n_show_guess_2 : Nat := 173
def L_show_guess_2 : LFn := ⟨15, (.seq (.region [⟨none, some 3, .mv (.const (.int .i64 0))⟩])
 (.seq (.region [⟨none, some 7, .load1 (.tmp 1)⟩,
  ⟨none, some 8, .mv (.tmp 0)⟩,
  ⟨none, some 9, .iadS 1 (.tmp 7) (.tmp 8)⟩,
  ⟨none, some 10, .load1 (.tmp 9)⟩,
  ⟨none, some 11, .call (.func 150) [(.tmp 10)]⟩,
  ⟨none, some 6, .mv (.tmp 11)⟩,
  ⟨none, some 12, .ext (.tmp 6) 0⟩,
  ⟨none, some 13, .ext (.tmp 6) 1⟩,
  ⟨none, some 4, .mv (.tmp 12)⟩,
  ⟨none, some 5, .mv (.tmp 13)⟩])
 (.seq (.region [⟨none, some 14, .mv (.tmp 4)⟩,
  ⟨none, some 3, .mv (.tmp 14)⟩])
 .ret))),
 [.tmp 3]⟩
theorem c_show_guess_2 : compF P0 pf Go.Proofs.Tryz.f173 = some L_show_guess_2 := by kernel_rfl
/-- undertow/show.asSet -/
abbrev n_show_asSet : Nat := 174
def L_show_asSet : LFn := ⟨20, (.seq (.region [⟨none, some 2, .mv (.const (.int .i64 0))⟩])
 (.seq (.region [⟨none, some 3, .mv (.const (.int .i64 0))⟩])
 (.seq (.seq (.region [⟨none, some 5, .mv (.const (.int .i64 0))⟩])
 (.block 0 (.loop (.seq (.region [⟨none, some 6, .bin .lss (.tmp 5) (.const (.int .i64 4))⟩])
 (.seq (.cond (.tmp 6) .skip (.exit 0))
 (.seq (.block 1 (.seq (.region [⟨none, some 7, .mv (.tmp 5)⟩,
  ⟨none, some 4, .mv (.tmp 7)⟩])
 (.seq (.region [⟨none, some 8, .mv (.tmp 0)⟩,
  ⟨none, some 9, .mv (.tmp 4)⟩,
  ⟨none, some 10, .mv (.tmp 4)⟩,
  ⟨none, some 11, .bin .add (.tmp 10) (.const (.int .i64 1))⟩,
  ⟨none, some 12, .slcT (.const (.string ⟨#[105, 111, 114, 119]⟩)) (some (.tmp 9)) (some (.tmp 11))⟩,
  ⟨none, some 13, .call (.func 191) [(.tmp 8), (.tmp 12)]⟩])
 (.cond (.tmp 13) (.region [⟨none, some 14, .mv (.tmp 3)⟩,
  ⟨none, some 15, .mv (.tmp 4)⟩,
  ⟨none, some 16, .bin .shr (.const (.int .i64 8)) (.tmp 15)⟩,
  ⟨none, some 17, .bin .or (.tmp 14) (.tmp 16)⟩,
  ⟨none, some 3, .mv (.tmp 17)⟩]) .skip))))
 (.region [⟨none, some 18, .bin .add (.tmp 5) (.const (.int .i64 1))⟩,
  ⟨none, some 5, .mv (.tmp 18)⟩])))))))
 (.seq (.region [⟨none, some 19, .mv (.tmp 3)⟩,
  ⟨none, some 2, .mv (.tmp 19)⟩])
 .ret)))),
 [.tmp 2]⟩
theorem c_show_asSet : compF P0 pf Go.Proofs.Tryz.f174 = some L_show_asSet := by kernel_rfl
/-- internal/bytealg.LastIndexByteString -/
abbrev n_bytealg_LastIndexByteString : Nat := 175
def L_bytealg_LastIndexByteString : LFn := ⟨19, (.seq (.region [⟨none, some 4, .mv (.const (.int .i64 0))⟩])
 (.seq (.seq (.region [⟨none, some 6, .mv (.tmp 0)⟩,
  ⟨none, some 7, .lenT (.tmp 6)⟩,
  ⟨none, some 8, .bin .sub (.tmp 7) (.const (.int .i64 1))⟩,
  ⟨none, some 5, .mv (.tmp 8)⟩])
 (.block 0 (.loop (.seq (.seq (.region [⟨none, some 9, .mv (.tmp 5)⟩,
  ⟨none, some 10, .bin .geq (.tmp 9) (.const (.int .i64 0))⟩])
 (.cond (.tmp 10) .skip (.exit 0)))
 (.seq (.block 1 (.seq (.region [⟨none, some 13, .mv (.tmp 0)⟩,
  ⟨none, some 14, .mv (.tmp 5)⟩,
  ⟨none, some 15, .ixS (.tmp 13) (.tmp 14)⟩,
  ⟨none, some 16, .mv (.tmp 1)⟩,
  ⟨none, some 17, .bin .eql (.tmp 15) (.tmp 16)⟩])
 (.cond (.tmp 17) (.seq (.region [⟨none, some 18, .mv (.tmp 5)⟩,
  ⟨none, some 4, .mv (.tmp 18)⟩])
 .ret) .skip)))
 (.region [⟨none, some 11, .mv (.tmp 5)⟩,
  ⟨none, some 12, .bin .sub (.tmp 11) (.const (.int .i64 1))⟩,
  ⟨none, some 5, .mv (.tmp 12)⟩]))))))
 (.seq (.region [⟨none, some 4, .mv (.const (.int .i64 (-1)))⟩])
 .ret))),
 [.tmp 4]⟩
theorem c_bytealg_LastIndexByteString : compF P0 pf Go.Proofs.Tryz.f175 = some L_bytealg_LastIndexByteString := by kernel_rfl
/-- internal/bytealg.LastIndexRabinKarp[string] -/
abbrev n_bytealg_LastIndexRabinKarp_string : Nat := 176
def L_bytealg_LastIndexRabinKarp_string : LFn := ⟨87, (.seq (.region [⟨none, some 4, .mv (.const (.int .i64 0))⟩])
 (.seq (.region [⟨none, some 13, .mv (.tmp 1)⟩,
  ⟨none, some 14, .call (.func 192) [(.tmp 13)]⟩,
  ⟨none, some 12, .mv (.tmp 14)⟩,
  ⟨none, some 15, .ext (.tmp 12) 0⟩,
  ⟨none, some 16, .ext (.tmp 12) 1⟩,
  ⟨none, some 5, .mv (.tmp 15)⟩,
  ⟨none, some 6, .mv (.tmp 16)⟩])
 (.seq (.region [⟨none, some 17, .mv (.tmp 1)⟩,
  ⟨none, some 18, .lenT (.tmp 17)⟩,
  ⟨none, some 7, .mv (.tmp 18)⟩])
 (.seq (.region [⟨none, some 19, .mv (.tmp 0)⟩,
  ⟨none, some 20, .lenT (.tmp 19)⟩,
  ⟨none, some 21, .mv (.tmp 7)⟩,
  ⟨none, some 22, .bin .sub (.tmp 20) (.tmp 21)⟩,
  ⟨none, some 8, .mv (.tmp 22)⟩])
 (.seq (.region [⟨none, some 9, .mv (.const (.int .u32 0))⟩])
 (.seq (.seq (.region [⟨none, some 23, .mv (.tmp 0)⟩,
  ⟨none, some 24, .lenT (.tmp 23)⟩,
  ⟨none, some 25, .bin .sub (.tmp 24) (.const (.int .i64 1))⟩,
  ⟨none, some 10, .mv (.tmp 25)⟩])
 (.block 0 (.loop (.seq (.seq (.region [⟨none, some 26, .mv (.tmp 10)⟩,
  ⟨none, some 27, .mv (.tmp 8)⟩,
  ⟨none, some 28, .bin .geq (.tmp 26) (.tmp 27)⟩])
 (.cond (.tmp 28) .skip (.exit 0)))
 (.seq (.block 1 (.region [⟨none, some 31, .mv (.tmp 9)⟩,
  ⟨none, some 32, .bin .mul (.tmp 31) (.const (.int .u32 16777619))⟩,
  ⟨none, some 33, .mv (.tmp 0)⟩,
  ⟨none, some 34, .mv (.tmp 10)⟩,
  ⟨none, some 35, .ixS (.tmp 33) (.tmp 34)⟩,
  ⟨none, some 36, .convI .u32 (.tmp 35)⟩,
  ⟨none, some 37, .bin .add (.tmp 32) (.tmp 36)⟩,
  ⟨none, some 9, .mv (.tmp 37)⟩]))
 (.region [⟨none, some 29, .mv (.tmp 10)⟩,
  ⟨none, some 30, .bin .sub (.tmp 29) (.const (.int .i64 1))⟩,
  ⟨none, some 10, .mv (.tmp 30)⟩]))))))
 (.seq (.seq (.region [⟨none, some 38, .mv (.tmp 9)⟩,
  ⟨none, some 39, .mv (.tmp 5)⟩,
  ⟨none, some 40, .bin .eql (.tmp 38) (.tmp 39)⟩,
  ⟨none, some 41, .mv (.tmp 40)⟩,
  ⟨some (41, true), some 42, .mv (.tmp 0)⟩,
  ⟨some (41, true), some 43, .mv (.tmp 8)⟩,
  ⟨some (41, true), some 44, .slcT (.tmp 42) (some (.tmp 43)) none⟩,
  ⟨some (41, true), some 45, .mv (.tmp 1)⟩,
  ⟨some (41, true), some 46, .bin .eql (.tmp 44) (.tmp 45)⟩,
  ⟨none, some 47, .pick (.tmp 41) (.tmp 46) (.const (.bool false))⟩])
 (.cond (.tmp 47) (.seq (.region [⟨none, some 48, .mv (.tmp 8)⟩,
  ⟨none, some 4, .mv (.tmp 48)⟩])
 .ret) .skip))
 (.seq (.seq (.region [⟨none, some 49, .mv (.tmp 8)⟩,
  ⟨none, some 50, .bin .sub (.tmp 49) (.const (.int .i64 1))⟩,
  ⟨none, some 11, .mv (.tmp 50)⟩])
 (.block 2 (.loop (.seq (.seq (.region [⟨none, some 51, .mv (.tmp 11)⟩,
  ⟨none, some 52, .bin .geq (.tmp 51) (.const (.int .i64 0))⟩])
 (.cond (.tmp 52) .skip (.exit 2)))
 (.seq (.block 3 (.seq (.region [⟨none, some 55, .mv (.tmp 9)⟩,
  ⟨none, some 56, .bin .mul (.tmp 55) (.const (.int .u32 16777619))⟩,
  ⟨none, some 9, .mv (.tmp 56)⟩])
 (.seq (.region [⟨none, some 57, .mv (.tmp 9)⟩,
  ⟨none, some 58, .mv (.tmp 0)⟩,
  ⟨none, some 59, .mv (.tmp 11)⟩,
  ⟨none, some 60, .ixS (.tmp 58) (.tmp 59)⟩,
  ⟨none, some 61, .convI .u32 (.tmp 60)⟩,
  ⟨none, some 62, .bin .add (.tmp 57) (.tmp 61)⟩,
  ⟨none, some 9, .mv (.tmp 62)⟩])
 (.seq (.region [⟨none, some 63, .mv (.tmp 9)⟩,
  ⟨none, some 64, .mv (.tmp 6)⟩,
  ⟨none, some 65, .mv (.tmp 0)⟩,
  ⟨none, some 66, .mv (.tmp 11)⟩,
  ⟨none, some 67, .mv (.tmp 7)⟩,
  ⟨none, some 68, .bin .add (.tmp 66) (.tmp 67)⟩,
  ⟨none, some 69, .ixS (.tmp 65) (.tmp 68)⟩,
  ⟨none, some 70, .convI .u32 (.tmp 69)⟩,
  ⟨none, some 71, .bin .mul (.tmp 64) (.tmp 70)⟩,
  ⟨none, some 72, .bin .sub (.tmp 63) (.tmp 71)⟩,
  ⟨none, some 9, .mv (.tmp 72)⟩])
 (.seq (.region [⟨none, some 73, .mv (.tmp 9)⟩,
  ⟨none, some 74, .mv (.tmp 5)⟩,
  ⟨none, some 75, .bin .eql (.tmp 73) (.tmp 74)⟩,
  ⟨none, some 76, .mv (.tmp 75)⟩,
  ⟨some (76, true), some 77, .mv (.tmp 0)⟩,
  ⟨some (76, true), some 78, .mv (.tmp 11)⟩,
  ⟨some (76, true), some 79, .mv (.tmp 11)⟩,
  ⟨some (76, true), some 80, .mv (.tmp 7)⟩,
  ⟨some (76, true), some 81, .bin .add (.tmp 79) (.tmp 80)⟩,
  ⟨some (76, true), some 82, .slcT (.tmp 77) (some (.tmp 78)) (some (.tmp 81))⟩,
  ⟨some (76, true), some 83, .mv (.tmp 1)⟩,
  ⟨some (76, true), some 84, .bin .eql (.tmp 82) (.tmp 83)⟩,
  ⟨none, some 85, .pick (.tmp 76) (.tmp 84) (.const (.bool false))⟩])
 (.cond (.tmp 85) (.seq (.region [⟨none, some 86, .mv (.tmp 11)⟩,
  ⟨none, some 4, .mv (.tmp 86)⟩])
 .ret) .skip))))))
 (.region [⟨none, some 53, .mv (.tmp 11)⟩,
  ⟨none, some 54, .bin .sub (.tmp 53) (.const (.int .i64 1))⟩,
  ⟨none, some 11, .mv (.tmp 54)⟩]))))))
 (.seq (.region [⟨none, some 4, .mv (.const (.int .i64 (-1)))⟩])
 .ret))))))))),
 [.tmp 4]⟩
theorem c_bytealg_LastIndexRabinKarp_string : compF P0 pf Go.Proofs.Tryz.f176 = some L_bytealg_LastIndexRabinKarp_string := by kernel_rfl
/-- unicode/utf8.RuneStart -/
abbrev n_unicode_utf8_RuneStart : Nat := 184
def L_unicode_utf8_RuneStart : LFn := ⟨6, (.seq (.region [⟨none, some 2, .mv (.const (.bool false))⟩])
 (.seq (.region [⟨none, some 3, .mv (.tmp 0)⟩,
  ⟨none, some 4, .bin .and (.tmp 3) (.const (.int .u8 192))⟩,
  ⟨none, some 5, .bin .neq (.tmp 4) (.const (.int .u8 128))⟩,
  ⟨none, some 2, .mv (.tmp 5)⟩])
 .ret)),
 [.tmp 2]⟩
theorem c_unicode_utf8_RuneStart : compF P0 pf Go.Proofs.Tryz.f184 = some L_unicode_utf8_RuneStart := by kernel_rfl
/-- undertow/ops.ByName -/
abbrev n_ops_ByName : Nat := 187
def L_ops_ByName : LFn := ⟨15, (.seq (.region [⟨none, some 2, .mv (.const (.int .i64 0))⟩])
 (.seq (.seq (.region [⟨none, some 5, .call (.func 156) []⟩,
  ⟨none, some 6, .mv (.const (.int .i64 0))⟩])
 (.block 0 (.loop (.seq (.region [⟨none, some 7, .bin .lss (.tmp 6) (.const (.int .i64 76))⟩])
 (.seq (.cond (.tmp 7) .skip (.exit 0))
 (.seq (.block 1 (.seq (.region [⟨none, some 8, .mv (.tmp 6)⟩,
  ⟨none, some 9, .ix1 76 (.tmp 5) (.tmp 6)⟩,
  ⟨none, some 3, .mv (.tmp 8)⟩,
  ⟨none, some 4, .mv (.tmp 9)⟩])
 (.seq (.region [⟨none, some 10, .mv (.tmp 4)⟩,
  ⟨none, some 11, .mv (.tmp 0)⟩,
  ⟨none, some 12, .bin .eql (.tmp 10) (.tmp 11)⟩])
 (.cond (.tmp 12) (.seq (.region [⟨none, some 13, .mv (.tmp 3)⟩,
  ⟨none, some 2, .mv (.tmp 13)⟩])
 .ret) .skip))))
 (.region [⟨none, some 14, .bin .add (.tmp 6) (.const (.int .i64 1))⟩,
  ⟨none, some 6, .mv (.tmp 14)⟩])))))))
 (.seq (.region [⟨none, some 2, .mv (.const (.int .i64 0))⟩])
 .ret))),
 [.tmp 2]⟩
theorem c_ops_ByName : compF P0 pf Go.Proofs.Tryz.f187 = some L_ops_ByName := by kernel_rfl
/-- strings.HasPrefix -/
abbrev n_strings_HasPrefix : Nat := 188
def L_strings_HasPrefix : LFn := ⟨8, (.seq (.region [⟨none, some 4, .mv (.const (.bool false))⟩])
 (.seq (.region [⟨none, some 5, .mv (.tmp 0)⟩,
  ⟨none, some 6, .mv (.tmp 1)⟩,
  ⟨none, some 7, .call (.func 202) [(.tmp 5), (.tmp 6)]⟩,
  ⟨none, some 4, .mv (.tmp 7)⟩])
 .ret)),
 [.tmp 4]⟩
theorem c_strings_HasPrefix : compF P0 pf Go.Proofs.Tryz.f188 = some L_strings_HasPrefix := by kernel_rfl
/-- internal/stringslite.TrimSuffix -/
abbrev n_stringslite_TrimSuffix : Nat := 189
def L_stringslite_TrimSuffix : LFn := ⟨16, (.seq (.region [⟨none, some 4, .mv (.const (.string ⟨#[]⟩))⟩])
 (.seq (.seq (.region [⟨none, some 5, .mv (.tmp 0)⟩,
  ⟨none, some 6, .mv (.tmp 1)⟩,
  ⟨none, some 7, .call (.func 166) [(.tmp 5), (.tmp 6)]⟩])
 (.cond (.tmp 7) (.seq (.region [⟨none, some 8, .mv (.tmp 0)⟩,
  ⟨none, some 9, .mv (.tmp 0)⟩,
  ⟨none, some 10, .lenT (.tmp 9)⟩,
  ⟨none, some 11, .mv (.tmp 1)⟩,
  ⟨none, some 12, .lenT (.tmp 11)⟩,
  ⟨none, some 13, .bin .sub (.tmp 10) (.tmp 12)⟩,
  ⟨none, some 14, .slcT (.tmp 8) none (some (.tmp 13))⟩,
  ⟨none, some 4, .mv (.tmp 14)⟩])
 .ret) .skip))
 (.seq (.region [⟨none, some 15, .mv (.tmp 0)⟩,
  ⟨none, some 4, .mv (.tmp 15)⟩])
 .ret))),
 [.tmp 4]⟩
theorem c_stringslite_TrimSuffix : compF P0 pf Go.Proofs.Tryz.f189 = some L_stringslite_TrimSuffix := by kernel_rfl
/-- strings.CutPrefix -/
abbrev n_strings_CutPrefix : Nat := 190
def L_strings_CutPrefix : LFn := ⟨11, (.seq (.region [⟨none, some 4, .mv (.const (.string ⟨#[]⟩))⟩,
  ⟨none, some 5, .mv (.const (.bool false))⟩])
 (.seq (.region [⟨none, some 6, .mv (.tmp 0)⟩,
  ⟨none, some 7, .mv (.tmp 1)⟩,
  ⟨none, some 8, .call (.func 203) [(.tmp 6), (.tmp 7)]⟩,
  ⟨none, some 9, .ext (.tmp 8) 0⟩,
  ⟨none, some 10, .ext (.tmp 8) 1⟩,
  ⟨none, some 4, .mv (.tmp 9)⟩,
  ⟨none, some 5, .mv (.tmp 10)⟩])
 .ret)),
 [.tmp 4, .tmp 5]⟩
theorem c_strings_CutPrefix : compF P0 pf Go.Proofs.Tryz.f190 = some L_strings_CutPrefix := by kernel_rfl
/-- internal/bytealg.hashStrRev[string] -/
abbrev n_bytealg_hashStrRev_string : Nat := 192
def L_bytealg_hashStrRev_string : LFn := ⟨40, (.seq (.region [⟨none, some 2, .mv (.const (.int .u32 0))⟩,
  ⟨none, some 3, .mv (.const (.int .u32 0))⟩])
 (.seq (.region [⟨none, some 4, .mv (.const (.int .u32 0))⟩])
 (.seq (.seq (.region [⟨none, some 9, .mv (.tmp 0)⟩,
  ⟨none, some 10, .lenT (.tmp 9)⟩,
  ⟨none, some 11, .bin .sub (.tmp 10) (.const (.int .i64 1))⟩,
  ⟨none, some 5, .mv (.tmp 11)⟩])
 (.block 0 (.loop (.seq (.seq (.region [⟨none, some 12, .mv (.tmp 5)⟩,
  ⟨none, some 13, .bin .geq (.tmp 12) (.const (.int .i64 0))⟩])
 (.cond (.tmp 13) .skip (.exit 0)))
 (.seq (.block 1 (.region [⟨none, some 16, .mv (.tmp 4)⟩,
  ⟨none, some 17, .bin .mul (.tmp 16) (.const (.int .u32 16777619))⟩,
  ⟨none, some 18, .mv (.tmp 0)⟩,
  ⟨none, some 19, .mv (.tmp 5)⟩,
  ⟨none, some 20, .ixS (.tmp 18) (.tmp 19)⟩,
  ⟨none, some 21, .convI .u32 (.tmp 20)⟩,
  ⟨none, some 22, .bin .add (.tmp 17) (.tmp 21)⟩,
  ⟨none, some 4, .mv (.tmp 22)⟩]))
 (.region [⟨none, some 14, .mv (.tmp 5)⟩,
  ⟨none, some 15, .bin .sub (.tmp 14) (.const (.int .i64 1))⟩,
  ⟨none, some 5, .mv (.tmp 15)⟩]))))))
 (.seq (.region [⟨none, some 6, .mv (.const (.int .u32 1))⟩,
  ⟨none, some 7, .mv (.const (.int .u32 16777619))⟩])
 (.seq (.seq (.region [⟨none, some 23, .mv (.tmp 0)⟩,
  ⟨none, some 24, .lenT (.tmp 23)⟩,
  ⟨none, some 8, .mv (.tmp 24)⟩])
 (.block 2 (.loop (.seq (.seq (.region [⟨none, some 25, .mv (.tmp 8)⟩,
  ⟨none, some 26, .bin .gtr (.tmp 25) (.const (.int .i64 0))⟩])
 (.cond (.tmp 26) .skip (.exit 2)))
 (.seq (.block 3 (.seq (.seq (.region [⟨none, some 29, .mv (.tmp 8)⟩,
  ⟨none, some 30, .bin .and (.tmp 29) (.const (.int .i64 1))⟩,
  ⟨none, some 31, .bin .neq (.tmp 30) (.const (.int .i64 0))⟩])
 (.cond (.tmp 31) (.region [⟨none, some 32, .mv (.tmp 6)⟩,
  ⟨none, some 33, .mv (.tmp 7)⟩,
  ⟨none, some 34, .bin .mul (.tmp 32) (.tmp 33)⟩,
  ⟨none, some 6, .mv (.tmp 34)⟩]) .skip))
 (.region [⟨none, some 35, .mv (.tmp 7)⟩,
  ⟨none, some 36, .mv (.tmp 7)⟩,
  ⟨none, some 37, .bin .mul (.tmp 35) (.tmp 36)⟩,
  ⟨none, some 7, .mv (.tmp 37)⟩])))
 (.region [⟨none, some 27, .mv (.tmp 8)⟩,
  ⟨none, some 28, .bin .shr (.tmp 27) (.const (.int .u64 1))⟩,
  ⟨none, some 8, .mv (.tmp 28)⟩]))))))
 (.seq (.region [⟨none, some 38, .mv (.tmp 4)⟩,
  ⟨none, some 39, .mv (.tmp 6)⟩,
  ⟨none, some 2, .mv (.tmp 38)⟩,
  ⟨none, some 3, .mv (.tmp 39)⟩])
 .ret)))))),
 [.tmp 2, .tmp 3]⟩
theorem c_bytealg_hashStrRev_string : compF P0 pf Go.Proofs.Tryz.f192 = some L_bytealg_hashStrRev_string := by kernel_rfl
/-- internal/stringslite.HasPrefix -/
abbrev n_stringslite_HasPrefix : Nat := 202
def L_stringslite_HasPrefix : LFn := ⟨18, (.seq (.region [⟨none, some 4, .mv (.const (.bool false))⟩])
 (.seq (.region [⟨none, some 5, .mv (.tmp 0)⟩,
  ⟨none, some 6, .lenT (.tmp 5)⟩,
  ⟨none, some 7, .mv (.tmp 1)⟩,
  ⟨none, some 8, .lenT (.tmp 7)⟩,
  ⟨none, some 9, .bin .geq (.tmp 6) (.tmp 8)⟩,
  ⟨none, some 10, .mv (.tmp 9)⟩,
  ⟨some (10, true), some 11, .mv (.tmp 0)⟩,
  ⟨some (10, true), some 12, .mv (.tmp 1)⟩,
  ⟨some (10, true), some 13, .lenT (.tmp 12)⟩,
  ⟨some (10, true), some 14, .slcT (.tmp 11) none (some (.tmp 13))⟩,
  ⟨some (10, true), some 15, .mv (.tmp 1)⟩,
  ⟨some (10, true), some 16, .bin .eql (.tmp 14) (.tmp 15)⟩,
  ⟨none, some 17, .pick (.tmp 10) (.tmp 16) (.const (.bool false))⟩,
  ⟨none, some 4, .mv (.tmp 17)⟩])
 .ret)),
 [.tmp 4]⟩
theorem c_stringslite_HasPrefix : compF P0 pf Go.Proofs.Tryz.f202 = some L_stringslite_HasPrefix := by kernel_rfl
/-- internal/stringslite.CutPrefix -/
abbrev n_stringslite_CutPrefix : Nat := 203
def L_stringslite_CutPrefix : LFn := ⟨15, (.seq (.region [⟨none, some 4, .mv (.const (.string ⟨#[]⟩))⟩,
  ⟨none, some 5, .mv (.const (.bool false))⟩])
 (.seq (.seq (.region [⟨none, some 6, .mv (.tmp 0)⟩,
  ⟨none, some 7, .mv (.tmp 1)⟩,
  ⟨none, some 8, .call (.func 202) [(.tmp 6), (.tmp 7)]⟩,
  ⟨none, some 9, .un .not (.tmp 8)⟩])
 (.cond (.tmp 9) (.seq (.region [⟨none, some 10, .mv (.tmp 0)⟩,
  ⟨none, some 4, .mv (.tmp 10)⟩,
  ⟨none, some 5, .mv (.const (.bool false))⟩])
 .ret) .skip))
 (.seq (.region [⟨none, some 11, .mv (.tmp 0)⟩,
  ⟨none, some 12, .mv (.tmp 1)⟩,
  ⟨none, some 13, .lenT (.tmp 12)⟩,
  ⟨none, some 14, .slcT (.tmp 11) (some (.tmp 13)) none⟩,
  ⟨none, some 4, .mv (.tmp 14)⟩,
  ⟨none, some 5, .mv (.const (.bool true))⟩])
 .ret))),
 [.tmp 4, .tmp 5]⟩
theorem c_stringslite_CutPrefix : compF P0 pf Go.Proofs.Tryz.f203 = some L_stringslite_CutPrefix := by kernel_rfl
def fnsL : List (Nat × LFn × Nat) := [(3, L_law10_AsmLines, 2), (4, L_law10_AsmBack, 2), (5, L_law11_SeqStays, 2), (7, L_law11_SeqStores, 3), (8, L_law10_alive, 3), (9, L_ref10_SameTexts, 2), (10, L_asm_Lines, 1), (11, L_ref10_Lines, 1), (12, L_asm_IsName, 3), (13, L_ref10_Name, 3), (14, L_asm_Assemble, 1), (15, L_ref01_SameBytes, 2), (16, L_law11_alive, 3), (17, L_seq_Step, 2), (18, L_seq_Alone, 1), (19, L_ref05_Size, 3), (20, L_ref01_Zext, 3), (21, L_word_Of, 2), (22, L_decode_Decode, 3), (23, L_encode_Encode, 3), (24, L_show_Text, 3), (25, L_strconv_FormatUint, 3), (27, L_ref01_Of, 2), (28, L_ref06_Decode, 3), (29, L_ref07_Word, 3), (30, L_ref09_Text, 3), (31, L_ref09_Digits, 3), (32, L_asm_each, 0), (33, L_asm_Assemble_1, 0), (34, L_asm_table_find, 2), (35, L_asm_Assemble_2, 0), (36, L_word_Bytes, 1), (37, L_seq_Fetch, 2), (38, L_seq_halts, 3), (39, L_ops_Loads, 3), (40, L_word_Zext, 3), (41, L_ops_Size, 3), (42, L_ops_Sort, 3), (43, L_ops_Stores, 3), (44, L_alu_Stored, 3), (45, L_alu_Next, 3), (46, L_ops_Target, 3), (47, L_seq_value, 3), (48, L_slices_Clone_byte_byte, 1), (49, L_seq_alone_ahead, 2), (50, L_seq_alone_behind, 0), (51, L_ref05_Name, 3), (52, L_ref05_Sort, 3), (53, L_decode_inst, 3), (54, L_decode_split, 3), (55, L_decode_Clean, 3), (56, L_encode_Right, 3), (57, L_encode_immediate, 3), (58, L_encode_all, 2), (59, L_decode_Opcode, 3), (60, L_encode_f3, 3), (61, L_encode_high, 3), (62, L_encode_bit, 3), (63, L_show_text, 3), (64, L_int_strconv_FormatUint, 3), (66, L_ref06_Is, 3), (67, L_ref05_Writes, 3), (68, L_ref05_First, 3), (69, L_ref05_Second, 3), (70, L_ref06_Format, 3), (71, L_ref04_Get, 3), (72, L_ref06_Shift, 3), (73, L_ref06_Opcode, 3), (74, L_ref06_F3, 3), (75, L_ref06_Turned, 3), (76, L_ref04_Put, 3), (77, L_ref06_Five, 3), (78, L_ref09_Set, 3), (79, L_strings_SplitSeq, 0), (80, L_asm_read, 0), (81, L_asm_line_space, 2), (82, L_ops_Memory, 3), (83, L_alu_Address, 3), (84, L_alu_Where, 3), (85, L_alu_atomic, 3), (86, L_word_Sext, 3), (87, L_alu_Taken, 3), (88, L_ops_register, 3), (89, L_alu_Loaded, 3), (90, L_alu_Result, 3), (91, L_ref05_Names, 1), (92, L_field_Get, 3), (93, L_decode_number, 3), (94, L_decode_numberW, 3), (95, L_decode_wide, 3), (96, L_decode_pair, 3), (97, L_decode_narrow, 3), (98, L_decode_fence, 3), (99, L_decode_atomic, 3), (100, L_decode_split_1, 2), (101, L_word_Field, 3), (102, L_ops_Sources, 1), (103, L_encode_shift, 3), (104, L_encode_format, 3), (105, L_field_Put, 3), (106, L_show_parts, 1), (107, L_show_name, 3), (109, L_int_strconv_small, 3), (111, L_int_strconv_formatBase10, 0), (114, L_ref04_Places, 3), (115, L_strings_splitSeq, 0), (117, L_strings_Trim, 3), (118, L_strings_CutSuffix, 3), (119, L_asm_data, 0), (120, L_asm_short, 3), (121, L_show_Read, 3), (122, L_asm_leads, 0), (123, L_alu_pair, 3), (124, L_alu_pairs, 3), (125, L_field_of, 0), (127, L_show_reg, 3), (128, L_show_set, 3), (129, L_ops_Name, 3), (138, L_strings_splitSeq_1, 0), (139, L_unicode_utf8_DecodeRuneInString, 3), (142, L_strings_trimLeftByte, 3), (143, L_strings_trimRightByte, 3), (144, L_strings_makeASCIISet, 3), (145, L_strings_trimLeftASCII, 2), (146, L_strings_trimRightASCII, 2), (147, L_strings_trimLeftUnicode, 3), (148, L_strings_trimRightUnicode, 3), (149, L_stringslite_CutSuffix, 3), (150, L_show_Number, 3), (151, L_show_guess, 3), (152, L_strings_LastIndex, 3), (153, L_alu_one, 3), (154, L_alu_narrow, 3), (155, L_field_layouts, 0), (156, L_ops_names, 3), (163, L_strings_asciiSet_contains, 2), (164, L_strings_ContainsRune, 3), (165, L_unicode_utf8_DecodeLastRuneInString, 3), (166, L_stringslite_HasSuffix, 3), (168, L_show_operation, 3), (169, L_show_cut, 1), (170, L_strings_TrimSuffix, 3), (171, L_show_guess_1, 2), (172, L_show_Register, 3), (173, L_show_guess_2, 2), (174, L_show_asSet, 3), (175, L_bytealg_LastIndexByteString, 3), (176, L_bytealg_LastIndexRabinKarp_string, 3), (184, L_unicode_utf8_RuneStart, 3), (187, L_ops_ByName, 3), (188, L_strings_HasPrefix, 3), (189, L_stringslite_TrimSuffix, 3), (190, L_strings_CutPrefix, 3), (192, L_bytealg_hashStrRev_string, 3), (202, L_stringslite_HasPrefix, 3), (203, L_stringslite_CutPrefix, 3)]
def fns : Nat → Option (LFn × Nat) := fun f => (fnsL.find? (·.1 == f)).map (·.2)
theorem fns_ok : ∀ f F m, fns f = some (F, m) → ∃ fn, P0.funcs[f]? = some fn ∧ compF P0 pf fn = some F := by
  have h : ∀ x ∈ fnsL, ∃ fn, P0.funcs[x.1]? = some fn ∧ compF P0 pf fn = some x.2.1 := by
    unfold fnsL
    simp only [List.forall_mem_cons]
    exact ⟨⟨_, Go.Proofs.Tryz.func3, c_law10_AsmLines⟩, ⟨_, Go.Proofs.Tryz.func4, c_law10_AsmBack⟩, ⟨_, Go.Proofs.Tryz.func5, c_law11_SeqStays⟩, ⟨_, Go.Proofs.Tryz.func7, c_law11_SeqStores⟩, ⟨_, Go.Proofs.Tryz.func8, c_law10_alive⟩, ⟨_, Go.Proofs.Tryz.func9, c_ref10_SameTexts⟩, ⟨_, Go.Proofs.Tryz.func10, c_asm_Lines⟩, ⟨_, Go.Proofs.Tryz.func11, c_ref10_Lines⟩, ⟨_, Go.Proofs.Tryz.func12, c_asm_IsName⟩, ⟨_, Go.Proofs.Tryz.func13, c_ref10_Name⟩, ⟨_, Go.Proofs.Tryz.func14, c_asm_Assemble⟩, ⟨_, Go.Proofs.Tryz.func15, c_ref01_SameBytes⟩, ⟨_, Go.Proofs.Tryz.func16, c_law11_alive⟩, ⟨_, Go.Proofs.Tryz.func17, c_seq_Step⟩, ⟨_, Go.Proofs.Tryz.func18, c_seq_Alone⟩, ⟨_, Go.Proofs.Tryz.func19, c_ref05_Size⟩, ⟨_, Go.Proofs.Tryz.func20, c_ref01_Zext⟩, ⟨_, Go.Proofs.Tryz.func21, c_word_Of⟩, ⟨_, Go.Proofs.Tryz.func22, c_decode_Decode⟩, ⟨_, Go.Proofs.Tryz.func23, c_encode_Encode⟩, ⟨_, Go.Proofs.Tryz.func24, c_show_Text⟩, ⟨_, Go.Proofs.Tryz.func25, c_strconv_FormatUint⟩, ⟨_, Go.Proofs.Tryz.func27, c_ref01_Of⟩, ⟨_, Go.Proofs.Tryz.func28, c_ref06_Decode⟩, ⟨_, Go.Proofs.Tryz.func29, c_ref07_Word⟩, ⟨_, Go.Proofs.Tryz.func30, c_ref09_Text⟩, ⟨_, Go.Proofs.Tryz.func31, c_ref09_Digits⟩, ⟨_, Go.Proofs.Tryz.func32, c_asm_each⟩, ⟨_, Go.Proofs.Tryz.func33, c_asm_Assemble_1⟩, ⟨_, Go.Proofs.Tryz.func34, c_asm_table_find⟩, ⟨_, Go.Proofs.Tryz.func35, c_asm_Assemble_2⟩, ⟨_, Go.Proofs.Tryz.func36, c_word_Bytes⟩, ⟨_, Go.Proofs.Tryz.func37, c_seq_Fetch⟩, ⟨_, Go.Proofs.Tryz.func38, c_seq_halts⟩, ⟨_, Go.Proofs.Tryz.func39, c_ops_Loads⟩, ⟨_, Go.Proofs.Tryz.func40, c_word_Zext⟩, ⟨_, Go.Proofs.Tryz.func41, c_ops_Size⟩, ⟨_, Go.Proofs.Tryz.func42, c_ops_Sort⟩, ⟨_, Go.Proofs.Tryz.func43, c_ops_Stores⟩, ⟨_, Go.Proofs.Tryz.func44, c_alu_Stored⟩, ⟨_, Go.Proofs.Tryz.func45, c_alu_Next⟩, ⟨_, Go.Proofs.Tryz.func46, c_ops_Target⟩, ⟨_, Go.Proofs.Tryz.func47, c_seq_value⟩, ⟨_, Go.Proofs.Tryz.func48, c_slices_Clone_byte_byte⟩, ⟨_, Go.Proofs.Tryz.func49, c_seq_alone_ahead⟩, ⟨_, Go.Proofs.Tryz.func50, c_seq_alone_behind⟩, ⟨_, Go.Proofs.Tryz.func51, c_ref05_Name⟩, ⟨_, Go.Proofs.Tryz.func52, c_ref05_Sort⟩, ⟨_, Go.Proofs.Tryz.func53, c_decode_inst⟩, ⟨_, Go.Proofs.Tryz.func54, c_decode_split⟩, ⟨_, Go.Proofs.Tryz.func55, c_decode_Clean⟩, ⟨_, Go.Proofs.Tryz.func56, c_encode_Right⟩, ⟨_, Go.Proofs.Tryz.func57, c_encode_immediate⟩, ⟨_, Go.Proofs.Tryz.func58, c_encode_all⟩, ⟨_, Go.Proofs.Tryz.func59, c_decode_Opcode⟩, ⟨_, Go.Proofs.Tryz.func60, c_encode_f3⟩, ⟨_, Go.Proofs.Tryz.func61, c_encode_high⟩, ⟨_, Go.Proofs.Tryz.func62, c_encode_bit⟩, ⟨_, Go.Proofs.Tryz.func63, c_show_text⟩, ⟨_, Go.Proofs.Tryz.func64, c_int_strconv_FormatUint⟩, ⟨_, Go.Proofs.Tryz.func66, c_ref06_Is⟩, ⟨_, Go.Proofs.Tryz.func67, c_ref05_Writes⟩, ⟨_, Go.Proofs.Tryz.func68, c_ref05_First⟩, ⟨_, Go.Proofs.Tryz.func69, c_ref05_Second⟩, ⟨_, Go.Proofs.Tryz.func70, c_ref06_Format⟩, ⟨_, Go.Proofs.Tryz.func71, c_ref04_Get⟩, ⟨_, Go.Proofs.Tryz.func72, c_ref06_Shift⟩, ⟨_, Go.Proofs.Tryz.func73, c_ref06_Opcode⟩, ⟨_, Go.Proofs.Tryz.func74, c_ref06_F3⟩, ⟨_, Go.Proofs.Tryz.func75, c_ref06_Turned⟩, ⟨_, Go.Proofs.Tryz.func76, c_ref04_Put⟩, ⟨_, Go.Proofs.Tryz.func77, c_ref06_Five⟩, ⟨_, Go.Proofs.Tryz.func78, c_ref09_Set⟩, ⟨_, Go.Proofs.Tryz.func79, c_strings_SplitSeq⟩, ⟨_, Go.Proofs.Tryz.func80, c_asm_read⟩, ⟨_, Go.Proofs.Tryz.func81, c_asm_line_space⟩, ⟨_, Go.Proofs.Tryz.func82, c_ops_Memory⟩, ⟨_, Go.Proofs.Tryz.func83, c_alu_Address⟩, ⟨_, Go.Proofs.Tryz.func84, c_alu_Where⟩, ⟨_, Go.Proofs.Tryz.func85, c_alu_atomic⟩, ⟨_, Go.Proofs.Tryz.func86, c_word_Sext⟩, ⟨_, Go.Proofs.Tryz.func87, c_alu_Taken⟩, ⟨_, Go.Proofs.Tryz.func88, c_ops_register⟩, ⟨_, Go.Proofs.Tryz.func89, c_alu_Loaded⟩, ⟨_, Go.Proofs.Tryz.func90, c_alu_Result⟩, ⟨_, Go.Proofs.Tryz.func91, c_ref05_Names⟩, ⟨_, Go.Proofs.Tryz.func92, c_field_Get⟩, ⟨_, Go.Proofs.Tryz.func93, c_decode_number⟩, ⟨_, Go.Proofs.Tryz.func94, c_decode_numberW⟩, ⟨_, Go.Proofs.Tryz.func95, c_decode_wide⟩, ⟨_, Go.Proofs.Tryz.func96, c_decode_pair⟩, ⟨_, Go.Proofs.Tryz.func97, c_decode_narrow⟩, ⟨_, Go.Proofs.Tryz.func98, c_decode_fence⟩, ⟨_, Go.Proofs.Tryz.func99, c_decode_atomic⟩, ⟨_, Go.Proofs.Tryz.func100, c_decode_split_1⟩, ⟨_, Go.Proofs.Tryz.func101, c_word_Field⟩, ⟨_, Go.Proofs.Tryz.func102, c_ops_Sources⟩, ⟨_, Go.Proofs.Tryz.func103, c_encode_shift⟩, ⟨_, Go.Proofs.Tryz.func104, c_encode_format⟩, ⟨_, Go.Proofs.Tryz.func105, c_field_Put⟩, ⟨_, Go.Proofs.Tryz.func106, c_show_parts⟩, ⟨_, Go.Proofs.Tryz.func107, c_show_name⟩, ⟨_, Go.Proofs.Tryz.func109, c_int_strconv_small⟩, ⟨_, Go.Proofs.Tryz.func111, c_int_strconv_formatBase10⟩, ⟨_, Go.Proofs.Tryz.func114, c_ref04_Places⟩, ⟨_, Go.Proofs.Tryz.func115, c_strings_splitSeq⟩, ⟨_, Go.Proofs.Tryz.func117, c_strings_Trim⟩, ⟨_, Go.Proofs.Tryz.func118, c_strings_CutSuffix⟩, ⟨_, Go.Proofs.Tryz.func119, c_asm_data⟩, ⟨_, Go.Proofs.Tryz.func120, c_asm_short⟩, ⟨_, Go.Proofs.Tryz.func121, c_show_Read⟩, ⟨_, Go.Proofs.Tryz.func122, c_asm_leads⟩, ⟨_, Go.Proofs.Tryz.func123, c_alu_pair⟩, ⟨_, Go.Proofs.Tryz.func124, c_alu_pairs⟩, ⟨_, Go.Proofs.Tryz.func125, c_field_of⟩, ⟨_, Go.Proofs.Tryz.func127, c_show_reg⟩, ⟨_, Go.Proofs.Tryz.func128, c_show_set⟩, ⟨_, Go.Proofs.Tryz.func129, c_ops_Name⟩, ⟨_, Go.Proofs.Tryz.func138, c_strings_splitSeq_1⟩, ⟨_, Go.Proofs.Tryz.func139, c_unicode_utf8_DecodeRuneInString⟩, ⟨_, Go.Proofs.Tryz.func142, c_strings_trimLeftByte⟩, ⟨_, Go.Proofs.Tryz.func143, c_strings_trimRightByte⟩, ⟨_, Go.Proofs.Tryz.func144, c_strings_makeASCIISet⟩, ⟨_, Go.Proofs.Tryz.func145, c_strings_trimLeftASCII⟩, ⟨_, Go.Proofs.Tryz.func146, c_strings_trimRightASCII⟩, ⟨_, Go.Proofs.Tryz.func147, c_strings_trimLeftUnicode⟩, ⟨_, Go.Proofs.Tryz.func148, c_strings_trimRightUnicode⟩, ⟨_, Go.Proofs.Tryz.func149, c_stringslite_CutSuffix⟩, ⟨_, Go.Proofs.Tryz.func150, c_show_Number⟩, ⟨_, Go.Proofs.Tryz.func151, c_show_guess⟩, ⟨_, Go.Proofs.Tryz.func152, c_strings_LastIndex⟩, ⟨_, Go.Proofs.Tryz.func153, c_alu_one⟩, ⟨_, Go.Proofs.Tryz.func154, c_alu_narrow⟩, ⟨_, Go.Proofs.Tryz.func155, c_field_layouts⟩, ⟨_, Go.Proofs.Tryz.func156, c_ops_names⟩, ⟨_, Go.Proofs.Tryz.func163, c_strings_asciiSet_contains⟩, ⟨_, Go.Proofs.Tryz.func164, c_strings_ContainsRune⟩, ⟨_, Go.Proofs.Tryz.func165, c_unicode_utf8_DecodeLastRuneInString⟩, ⟨_, Go.Proofs.Tryz.func166, c_stringslite_HasSuffix⟩, ⟨_, Go.Proofs.Tryz.func168, c_show_operation⟩, ⟨_, Go.Proofs.Tryz.func169, c_show_cut⟩, ⟨_, Go.Proofs.Tryz.func170, c_strings_TrimSuffix⟩, ⟨_, Go.Proofs.Tryz.func171, c_show_guess_1⟩, ⟨_, Go.Proofs.Tryz.func172, c_show_Register⟩, ⟨_, Go.Proofs.Tryz.func173, c_show_guess_2⟩, ⟨_, Go.Proofs.Tryz.func174, c_show_asSet⟩, ⟨_, Go.Proofs.Tryz.func175, c_bytealg_LastIndexByteString⟩, ⟨_, Go.Proofs.Tryz.func176, c_bytealg_LastIndexRabinKarp_string⟩, ⟨_, Go.Proofs.Tryz.func184, c_unicode_utf8_RuneStart⟩, ⟨_, Go.Proofs.Tryz.func187, c_ops_ByName⟩, ⟨_, Go.Proofs.Tryz.func188, c_strings_HasPrefix⟩, ⟨_, Go.Proofs.Tryz.func189, c_stringslite_TrimSuffix⟩, ⟨_, Go.Proofs.Tryz.func190, c_strings_CutPrefix⟩, ⟨_, Go.Proofs.Tryz.func192, c_bytealg_hashStrRev_string⟩, ⟨_, Go.Proofs.Tryz.func202, c_stringslite_HasPrefix⟩, ⟨_, Go.Proofs.Tryz.func203, c_stringslite_CutPrefix⟩, fun _ hx => by cases hx⟩
  intro f F m hf
  obtain ⟨x, hx, e⟩ := Option.map_eq_some_iff.1 hf
  have h1 := List.mem_of_find?_eq_some hx
  have h2 : x.1 = f := by simpa using List.find?_some hx
  obtain ⟨fn, a, b⟩ := h x h1
  rw [h2] at a
  rw [e] at b
  exact ⟨fn, a, b⟩
theorem fns_pure : ∀ f F m, fns f = some (F, m) → (pf f = true → m ≠ 0 ∧ m ≠ 1) ∧ (pf (f + 1000000) = true → m = 1) := by
  have h : fnsL.all (fun x => (!pf x.1 || (x.2.2 != 0 && x.2.2 != 1)) && (!pf (x.1 + 1000000) || x.2.2 == 1)) = true := by kernel_rfl
  intro f F m hf
  obtain ⟨x, hx, e⟩ := Option.map_eq_some_iff.1 hf
  have h1 := List.mem_of_find?_eq_some hx
  have h2 : x.1 = f := by simpa using List.find?_some hx
  have h3 := List.all_eq_true.1 h x h1
  rw [h2, e] at h3
  simp only [Bool.and_eq_true, Bool.or_eq_true, Bool.not_eq_true', bne_iff_ne, beq_iff_eq] at h3
  exact ⟨fun hp => h3.1.resolve_left (by simp [hp]), fun hp => h3.2.resolve_left (by simp [hp])⟩
abbrev errT : TypeId := 232
noncomputable def base : Tab := fun f => if f == 26 then scRow gItoa else if f == 108 then rJoin else if f == 116 then scRow gCut else if f == 126 then scRow gFmt else if f == 140 then scRow gIndex else if f == 167 then rParse 232 else if f == 191 then scRow gHas else  fun _ _ _ => none
/-- The table, d calls deep; loops go round k times. -/
noncomputable def T (k d : Nat) : Tab := tabOf P0 base fns k d
end Go.Lev.Seat

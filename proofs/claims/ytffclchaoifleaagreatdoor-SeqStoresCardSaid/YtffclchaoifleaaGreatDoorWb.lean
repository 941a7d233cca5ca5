/- Bits of words as numbers: what the program's tests of immediates are. -/
import Derived.Laws.BitsLemmas
import Derived.Laws.Bits64
set_option linter.unusedVariables false
set_option linter.unusedSimpArgs false
set_option linter.constructorNameAsVariable false

set_option linter.unusedVariables false
namespace Go.Lev
open Go

theorem and_mask (a : Int) (n : Nat) (h0 : 0 ≤ a) (h1 : a < 18446744073709551616) (hn : n ≤ 63) :
    IntKind.u64.wrap ((BitVec.ofInt IntKind.u64.bits a &&& BitVec.ofInt IntKind.u64.bits ((2 : Int) ^ n - 1)).toNat : Nat) = a % (2 : Int) ^ n := by
  obtain ⟨x, rfl⟩ : ∃ x : Nat, a = x := ⟨a.toNat, by omega⟩
  have hb : IntKind.u64.bits = 64 := rfl
  rw [hb]
  have e1 : (BitVec.ofInt 64 (x : Int)).toNat = x := by
    simp [BitVec.toNat_ofInt]; omega
  have hp : (2 : Nat) ^ n ≤ 2 ^ 63 := Nat.pow_le_pow_right (by omega) hn
  have hp0 : 0 < (2 : Nat) ^ n := Nat.pos_of_ne_zero (by simp)
  have e2 : (BitVec.ofInt 64 ((2 : Int) ^ n - 1)).toNat = 2 ^ n - 1 := by
    have : ((2 : Int) ^ n - 1) = ((2 ^ n - 1 : Nat) : Int) := by
      rw [Int.natCast_sub hp0]; simp
    rw [this]
    simp only [BitVec.toNat_ofInt]
    omega
  rw [BitVec.toNat_and, e1, e2, Nat.and_two_pow_sub_one_eq_mod, IntKind.wrap_u64]
  have : x % 2 ^ n ≤ x := Nat.mod_le _ _
  have e3 : ((x % 2 ^ n : Nat) : Int) = (x : Int) % (2 : Int) ^ n := by simp
  rw [← e3]
  omega

theorem sext_12 (imm : Int) (h0 : -9223372036854775808 ≤ imm) (h1 : imm ≤ 9223372036854775807) :
    (IntKind.u64.wrap ((IntKind.i64.wrap (IntKind.u64.wrap (IntKind.u64.wrap imm * 4503599627370496))).fdiv 4503599627370496) = IntKind.u64.wrap imm ↔ -2048 ≤ imm ∧ imm ≤ 2047) := by
  simp only [IntKind.wrap_u64, IntKind.wrap_i64, Int.fdiv_eq_ediv_of_nonneg _ (show (0:Int) ≤ 4503599627370496 by omega)]
  omega
theorem sext_13 (imm : Int) (h0 : -9223372036854775808 ≤ imm) (h1 : imm ≤ 9223372036854775807) :
    (IntKind.u64.wrap ((IntKind.i64.wrap (IntKind.u64.wrap (IntKind.u64.wrap imm * 2251799813685248))).fdiv 2251799813685248) = IntKind.u64.wrap imm ↔ -4096 ≤ imm ∧ imm ≤ 4095) := by
  simp only [IntKind.wrap_u64, IntKind.wrap_i64, Int.fdiv_eq_ediv_of_nonneg _ (show (0:Int) ≤ 2251799813685248 by omega)]
  omega
theorem sext_21 (imm : Int) (h0 : -9223372036854775808 ≤ imm) (h1 : imm ≤ 9223372036854775807) :
    (IntKind.u64.wrap ((IntKind.i64.wrap (IntKind.u64.wrap (IntKind.u64.wrap imm * 8796093022208))).fdiv 8796093022208) = IntKind.u64.wrap imm ↔ -1048576 ≤ imm ∧ imm ≤ 1048575) := by
  simp only [IntKind.wrap_u64, IntKind.wrap_i64, Int.fdiv_eq_ediv_of_nonneg _ (show (0:Int) ≤ 8796093022208 by omega)]
  omega
theorem sext_32 (imm : Int) (h0 : -9223372036854775808 ≤ imm) (h1 : imm ≤ 9223372036854775807) :
    (IntKind.u64.wrap ((IntKind.i64.wrap (IntKind.u64.wrap (IntKind.u64.wrap imm * 4294967296))).fdiv 4294967296) = IntKind.u64.wrap imm ↔ -2147483648 ≤ imm ∧ imm ≤ 2147483647) := by
  simp only [IntKind.wrap_u64, IntKind.wrap_i64, Int.fdiv_eq_ediv_of_nonneg _ (show (0:Int) ≤ 4294967296 by omega)]
  omega
theorem low_1 (imm : Int) : IntKind.u64.wrap imm % 2 = imm % 2 := by simp only [IntKind.wrap_u64]; omega
theorem low_12 (imm : Int) : IntKind.u64.wrap imm % 4096 = imm % 4096 := by simp only [IntKind.wrap_u64]; omega
theorem tmod_zero (imm k : Int) : imm.tmod k = 0 ↔ imm % k = 0 := by
  rw [← Int.dvd_iff_tmod_eq_zero, Int.dvd_iff_emod_eq_zero]
end Go.Lev

/- Bits of words as numbers: what the program's tests of immediates are. -/
import Derived.Laws.BitsLemmas
import Derived.Laws.Bits64
import Derived.Test.YtcaogimdpcaohaaGreatDoorH1
import Derived.Test.YtcaogimdpcaohaaGreatDoorLvE
set_option linter.unusedVariables false
set_option linter.unusedSimpArgs false
set_option linter.constructorNameAsVariable false

set_option linter.unusedVariables false
namespace Go.Lev
open Go

theorem and_mask (a : Int) (n : Nat) (h0 : 0 ≤ a) (h1 : a < 18446744073709551616) (hn : n ≤ 63) :
    IntKind.u64.wrap ((BitVec.ofInt IntKind.u64.bits a &&& BitVec.ofInt IntKind.u64.bits ((2 : Int) ^ n - 1)).toNat : Nat) = a % (2 : Int) ^ n := by
  obtain ⟨x, rfl⟩ : ∃ x : Nat, a = x := ⟨a.toNat, by omega⟩
  have hb : IntKind.u64.bits = 64 := rfl
  rw [hb]
  have e1 : (BitVec.ofInt 64 (x : Int)).toNat = x := by
    simp [BitVec.toNat_ofInt]; omega
  have hp : (2 : Nat) ^ n ≤ 2 ^ 63 := Nat.pow_le_pow_right (by omega) hn
  have hp0 : 0 < (2 : Nat) ^ n := Nat.pos_of_ne_zero (by simp)
  have e2 : (BitVec.ofInt 64 ((2 : Int) ^ n - 1)).toNat = 2 ^ n - 1 := by
    have : ((2 : Int) ^ n - 1) = ((2 ^ n - 1 : Nat) : Int) := by
      rw [Int.natCast_sub hp0]; simp
    rw [this]
    simp only [BitVec.toNat_ofInt]
    omega
  rw [BitVec.toNat_and, e1, e2, Nat.and_two_pow_sub_one_eq_mod, IntKind.wrap_u64]
  have : x % 2 ^ n ≤ x := Nat.mod_le _ _
  have e3 : ((x % 2 ^ n : Nat) : Int) = (x : Int) % (2 : Int) ^ n := by simp
  rw [← e3]
  omega

theorem sext_12 (imm : Int) (h0 : -9223372036854775808 ≤ imm) (h1 : imm ≤ 9223372036854775807) :
    (IntKind.u64.wrap ((IntKind.i64.wrap (IntKind.u64.wrap (IntKind.u64.wrap imm * 4503599627370496))).fdiv 4503599627370496) = IntKind.u64.wrap imm ↔ -2048 ≤ imm ∧ imm ≤ 2047) := by
  simp only [IntKind.wrap_u64, IntKind.wrap_i64, Int.fdiv_eq_ediv_of_nonneg _ (show (0:Int) ≤ 4503599627370496 by omega)]
  omega
theorem sext_13 (imm : Int) (h0 : -9223372036854775808 ≤ imm) (h1 : imm ≤ 9223372036854775807) :
    (IntKind.u64.wrap ((IntKind.i64.wrap (IntKind.u64.wrap (IntKind.u64.wrap imm * 2251799813685248))).fdiv 2251799813685248) = IntKind.u64.wrap imm ↔ -4096 ≤ imm ∧ imm ≤ 4095) := by
  simp only [IntKind.wrap_u64, IntKind.wrap_i64, Int.fdiv_eq_ediv_of_nonneg _ (show (0:Int) ≤ 2251799813685248 by omega)]
  omega
theorem sext_21 (imm : Int) (h0 : -9223372036854775808 ≤ imm) (h1 : imm ≤ 9223372036854775807) :
    (IntKind.u64.wrap ((IntKind.i64.wrap (IntKind.u64.wrap (IntKind.u64.wrap imm * 8796093022208))).fdiv 8796093022208) = IntKind.u64.wrap imm ↔ -1048576 ≤ imm ∧ imm ≤ 1048575) := by
  simp only [IntKind.wrap_u64, IntKind.wrap_i64, Int.fdiv_eq_ediv_of_nonneg _ (show (0:Int) ≤ 8796093022208 by omega)]
  omega
theorem sext_32 (imm : Int) (h0 : -9223372036854775808 ≤ imm) (h1 : imm ≤ 9223372036854775807) :
    (IntKind.u64.wrap ((IntKind.i64.wrap (IntKind.u64.wrap (IntKind.u64.wrap imm * 4294967296))).fdiv 4294967296) = IntKind.u64.wrap imm ↔ -2147483648 ≤ imm ∧ imm ≤ 2147483647) := by
  simp only [IntKind.wrap_u64, IntKind.wrap_i64, Int.fdiv_eq_ediv_of_nonneg _ (show (0:Int) ≤ 4294967296 by omega)]
  omega
theorem low_1 (imm : Int) : IntKind.u64.wrap imm % 2 = imm % 2 := by simp only [IntKind.wrap_u64]; omega
theorem low_12 (imm : Int) : IntKind.u64.wrap imm % 4096 = imm % 4096 := by simp only [IntKind.wrap_u64]; omega
theorem tmod_zero (imm k : Int) : imm.tmod k = 0 ↔ imm % k = 0 := by
  rw [← Int.dvd_iff_tmod_eq_zero, Int.dvd_iff_emod_eq_zero]
end Go.Lev

namespace Go.Lev.Seat
open Go Go.Lev
set_option linter.unusedSimpArgs false
set_option linter.unusedVariables false

def zextV (x n : Int) : Int := if n < 1 then 0 else if 64 ≤ n then x else
  IntKind.u64.wrap ((BitVec.ofInt IntKind.u64.bits x &&& BitVec.ofInt IntKind.u64.bits (IntKind.u64.wrap (IntKind.u64.wrap (1 * 2 ^ (min n.toNat 64)) - 1))).toNat : Nat)
theorem zext_run (d fl : Nat) (x n : Int) (H : Heap) : T 300 (d + 1) n_word_Zext fl [.int .u64 x, .int .i64 n] H = some (.int .u64 (zextV x n), H) := by
  refine T_scalar (F := L_word_Zext) rfl rfl rfl (by simp [L_word_Zext]) rfl ?_
  have hb : IntKind.u64.bits = 64 := rfl
  by_cases h1 : n < 1
  · simp [L_word_Zext, zextV, h1]
  · by_cases h2 : 64 ≤ n
    · simp [L_word_Zext, zextV, h1, h2]
    · have e := bv_shl .u64 .i64 1 n (by omega)
      simp [L_word_Zext, zextV, h1, h2, e, hb]
def sextV (x n : Int) : Int := if n < 1 ∨ 64 ≤ n then zextV x n else
  IntKind.u64.wrap ((IntKind.i64.wrap (IntKind.u64.wrap (x * 2 ^ (min (IntKind.i64.wrap (64 - n)).toNat 64)))).fdiv (2 ^ (min (IntKind.i64.wrap (64 - n)).toNat 64)))
theorem sext_run (d fl : Nat) (x n : Int) (H : Heap) : T 300 (d + 2) n_word_Sext fl [.int .u64 x, .int .i64 n] H = some (.int .u64 (sextV x n), H) := by
  refine T_scalar (F := L_word_Sext) rfl rfl rfl (by simp [L_word_Sext]) rfl ?_
  have hb : IntKind.u64.bits = 64 := rfl
  have hb' : IntKind.i64.bits = 64 := rfl
  have hz := fun fl H => zext_run d fl x n H
  by_cases h1 : n < 1
  · simp [L_word_Sext, sextV, h1, hz]
  · by_cases h2 : 64 ≤ n
    · simp [L_word_Sext, sextV, h1, h2, hz]
    · have e0 : 0 ≤ IntKind.i64.wrap (64 - n) := by simp only [IntKind.wrap_i64]; omega
      have e := fun a => bv_shl .u64 .i64 a _ e0
      have e' := fun a => bv_shr .i64 .i64 a _ e0
      simp [L_word_Sext, sextV, h1, h2, e, e', hb, hb']
def mayB (f imm : Int) : Bool :=
  if f = 1 ∨ f = 2 then decide (-2048 ≤ imm) && decide (imm ≤ 2047) else
  if f = 3 then decide (-4096 ≤ imm) && decide (imm ≤ 4095) && decide (imm.tmod 2 = 0) else
  if f = 4 then decide (-2147483648 ≤ imm) && decide (imm ≤ 2147483647) && decide (imm.tmod 4096 = 0) else
  if f = 5 then decide (-1048576 ≤ imm) && decide (imm ≤ 1048575) && decide (imm.tmod 2 = 0) else false
theorem may_run (d fl : Nat) (f imm : Int) (H : Heap) (hf : f = 1 ∨ f = 2 ∨ f = 3 ∨ f = 4 ∨ f = 5) : T 300 (d + 1) n_ref04_May fl [.int .i64 f, .int .i64 imm] H = some (.bool (mayB f imm), H) := by
  refine T_scalar (F := L_ref04_May) rfl rfl rfl (by simp [L_ref04_May]) rfl ?_
  rcases hf with rfl | rfl | rfl | rfl | rfl
  · by_cases a : -2048 ≤ imm <;> by_cases b : imm ≤ 2047 <;> simp [L_ref04_May, mayB, a, b]
  · by_cases a : -2048 ≤ imm <;> by_cases b : imm ≤ 2047 <;> simp [L_ref04_May, mayB, a, b]
  · by_cases a : -4096 ≤ imm <;> by_cases b : imm ≤ 4095 <;> by_cases c : imm.tmod 2 = 0 <;> simp [L_ref04_May, mayB, a, b, c]
  · by_cases a : -2147483648 ≤ imm <;> by_cases b : imm ≤ 2147483647 <;> by_cases c : imm.tmod 4096 = 0 <;> simp [L_ref04_May, mayB, a, b, c]
  · by_cases a : -1048576 ≤ imm <;> by_cases b : imm ≤ 1048575 <;> by_cases c : imm.tmod 2 = 0 <;> simp [L_ref04_May, mayB, a, b, c]

/-- How many bits a format has, the low ones that are 0. -/
def bitsL : List Int := [0, 12, 12, 13, 32, 21]
def lowL : List Int := [0, 0, 0, 1, 12, 1]
theorem put_test (f : Nat) (imm : Int) (hf : 1 ≤ f ∧ f ≤ 5) (h0 : -9223372036854775808 ≤ imm) (h1 : imm ≤ 9223372036854775807) :
    (sextV (IntKind.u64.wrap imm) (bitsL.getD f 0) = IntKind.u64.wrap imm ∧ zextV (IntKind.u64.wrap imm) (lowL.getD f 0) = 0) ↔ mayB f imm = true := by
  have w0 : 0 ≤ IntKind.u64.wrap imm := by simp only [IntKind.wrap_u64]; omega
  have w1 : IntKind.u64.wrap imm < 18446744073709551616 := by simp only [IntKind.wrap_u64]; omega
  have m1 := and_mask (IntKind.u64.wrap imm) 1 w0 w1 (by omega)
  have m12 := and_mask (IntKind.u64.wrap imm) 12 w0 w1 (by omega)
  have hc : f = 1 ∨ f = 2 ∨ f = 3 ∨ f = 4 ∨ f = 5 := by omega
  have e1 : IntKind.u64.wrap (IntKind.u64.wrap (1 * 2 ^ (min (1 : Int).toNat 64)) - 1) = (2 : Int) ^ 1 - 1 := by decide
  have e12 : IntKind.u64.wrap (IntKind.u64.wrap (1 * 2 ^ (min (12 : Int).toNat 64)) - 1) = (2 : Int) ^ 12 - 1 := by decide
  have z1 : zextV (IntKind.u64.wrap imm) 1 = imm % 2 := by
    rw [zextV, if_neg (by omega), if_neg (by omega), e1, m1, Int.pow_succ, Int.pow_zero, Int.one_mul]; exact low_1 imm
  have z12 : zextV (IntKind.u64.wrap imm) 12 = imm % 4096 := by
    rw [zextV, if_neg (by omega), if_neg (by omega), e12, m12]; exact low_12 imm
  have z0 : zextV (IntKind.u64.wrap imm) 0 = 0 := by rw [zextV, if_pos (by omega)]
  have sx : ∀ n p : Int, 1 ≤ n → n < 64 → (2 : Int) ^ (min (IntKind.i64.wrap (64 - n)).toNat 64) = p → sextV (IntKind.u64.wrap imm) n = IntKind.u64.wrap ((IntKind.i64.wrap (IntKind.u64.wrap (IntKind.u64.wrap imm * p))).fdiv p) := fun n p h1 h2 hp => by
    rw [sextV, if_neg (by omega), hp]
  have s12 := sx 12 4503599627370496 (by omega) (by omega) (by decide)
  have s13 := sx 13 2251799813685248 (by omega) (by omega) (by decide)
  have s21 := sx 21 8796093022208 (by omega) (by omega) (by decide)
  have s32 := sx 32 4294967296 (by omega) (by omega) (by decide)
  rcases hc with rfl | rfl | rfl | rfl | rfl <;> simp [bitsL, lowL, mayB, z0, z1, z12, s12, s13, s21, s32, sext_12 imm h0 h1, sext_13 imm h0 h1, sext_21 imm h0 h1, sext_32 imm h0 h1, tmod_zero]
end Go.Lev.Seat


namespace Go.Lev.Seat
open Go Go.Lev
set_option linter.unusedSimpArgs false
set_option linter.unusedVariables false
def layRows : Heap := [{ cells := [.int .i64 0, .int .i64 0, .slice none 0 0, .int .i64 12, .int .i64 0, .slice (some ⟨2, 0, some 0⟩) 1 3, .int .i64 12, .int .i64 0, .slice (some ⟨3, 0, some 0⟩) 2 3, .int .i64 13, .int .i64 1, .slice (some ⟨4, 0, some 0⟩) 4 3, .int .i64 32, .int .i64 12, .slice (some ⟨5, 0, some 0⟩) 1 3, .int .i64 21, .int .i64 1, .slice (some ⟨6, 0, some 0⟩) 4 3] }, { cells := [.int .i64 31, .int .i64 20, .int .i64 0], row := 3 }, { cells := [.int .i64 31, .int .i64 25, .int .i64 5, .int .i64 11, .int .i64 7, .int .i64 0], row := 3 }, { cells := [.int .i64 31, .int .i64 31, .int .i64 12, .int .i64 7, .int .i64 7, .int .i64 11, .int .i64 30, .int .i64 25, .int .i64 5, .int .i64 11, .int .i64 8, .int .i64 1], row := 3 }, { cells := [.int .i64 31, .int .i64 12, .int .i64 12], row := 3 }, { cells := [.int .i64 31, .int .i64 31, .int .i64 20, .int .i64 19, .int .i64 12, .int .i64 12, .int .i64 20, .int .i64 20, .int .i64 11, .int .i64 30, .int .i64 21, .int .i64 1], row := 3 }]
def nF (f : Nat) : Nat := [0, 1, 2, 4, 1, 4].getD f 0
def layF (f : Nat) : List Value := [.int .i64 (bitsL.getD f 0), .int .i64 (lowL.getD f 0), .slice (some ⟨f + 1, 0, some 0⟩) (nF f) 3]
theorem of1_run : T 300 5 n_field_of 0 [.int .i64 (1 : Nat)] [] = some (.tuple #[.agg (layF 1).toArray, .bool true], { cells := layF 1 } :: layRows) := by kernel_rfl
theorem of2_run : T 300 5 n_field_of 0 [.int .i64 (2 : Nat)] [] = some (.tuple #[.agg (layF 2).toArray, .bool true], { cells := layF 2 } :: layRows) := by kernel_rfl
theorem of3_run : T 300 5 n_field_of 0 [.int .i64 (3 : Nat)] [] = some (.tuple #[.agg (layF 3).toArray, .bool true], { cells := layF 3 } :: layRows) := by kernel_rfl
theorem of4_run : T 300 5 n_field_of 0 [.int .i64 (4 : Nat)] [] = some (.tuple #[.agg (layF 4).toArray, .bool true], { cells := layF 4 } :: layRows) := by kernel_rfl
theorem of5_run : T 300 5 n_field_of 0 [.int .i64 (5 : Nat)] [] = some (.tuple #[.agg (layF 5).toArray, .bool true], { cells := layF 5 } :: layRows) := by kernel_rfl
theorem of_run (f : Nat) (hf : 1 ≤ f ∧ f ≤ 5) : T 300 5 n_field_of 0 [.int .i64 (f : Nat)] [] = some (.tuple #[.agg (layF f).toArray, .bool true], { cells := layF f } :: layRows) := by
  have hc : f = 1 ∨ f = 2 ∨ f = 3 ∨ f = 4 ∨ f = 5 := by omega
  rcases hc with rfl | rfl | rfl | rfl | rfl
  · exact of1_run
  · exact of2_run
  · exact of3_run
  · exact of4_run
  · exact of5_run
theorem row_run (f i : Nat) (hf : 1 ≤ f ∧ f ≤ 5) (hi : i < nF f) (b : Box) (X : Heap) : ∃ x y z : Int, rdN ((b :: layRows) ++ X) ⟨f + 1, i * 3, some 0⟩ 3 = some [.int .i64 x, .int .i64 y, .int .i64 z] ∧ 0 ≤ y ∧ 0 ≤ z := by
  rw [rdN_left _ _ _ _ (by simp [layRows]; omega)]
  have hc : f = 1 ∨ f = 2 ∨ f = 3 ∨ f = 4 ∨ f = 5 := by omega
  rcases hc with rfl | rfl | rfl | rfl | rfl
  · have : i = 0 := by simp [nF] at hi; omega
    subst this; exact ⟨_, _, _, rfl, by omega, by omega⟩
  · have : i = 0 ∨ i = 1 := by simp [nF] at hi; omega
    rcases this with rfl | rfl <;> exact ⟨_, _, _, rfl, by omega, by omega⟩
  · have : i = 0 ∨ i = 1 ∨ i = 2 ∨ i = 3 := by simp [nF] at hi; omega
    rcases this with rfl | rfl | rfl | rfl <;> exact ⟨_, _, _, rfl, by omega, by omega⟩
  · have : i = 0 := by simp [nF] at hi; omega
    subst this; exact ⟨_, _, _, rfl, by omega, by omega⟩
  · have : i = 0 ∨ i = 1 ∨ i = 2 ∨ i = 3 := by simp [nF] at hi; omega
    rcases this with rfl | rfl | rfl | rfl <;> exact ⟨_, _, _, rfl, by omega, by omega⟩
end Go.Lev.Seat


namespace Go.Lev.Seat
open Go Go.Lev
set_option maxRecDepth 100000
/-- An instruction's value. -/
def instV (op rd r1 r2 imm : Int) (aq rl : Bool) (p s : Int) : Value := .agg #[.int .i64 op, .int .i64 rd, .int .i64 r1, .int .i64 r2, .int .i64 imm, .bool aq, .bool rl, .int .i64 p, .int .i64 s]
theorem clean_tab (rd r1 r2 imm p s : Int) (aq rl : Bool) : (List.range 76).map (fun op => T 300 6 n_decode_Clean 0 [instV (op : Nat) rd r1 r2 imm aq rl p s] []) =
  (List.range 76).map (fun op => some (instV (op : Nat) (if wrN' op then rd else 0) (if fiN op then r1 else 0) (if seN op then r2 else 0) imm aq rl p s, [])) := by kernel_rfl
theorem clean_in (fl op : Nat) (H : Heap) (h : op < 76) (rd r1 r2 imm p s : Int) (aq rl : Bool) : T 300 6 n_decode_Clean fl [instV (op : Nat) rd r1 r2 imm aq rl p s] H = some (instV (op : Nat) (if wrN' op then rd else 0) (if fiN op then r1 else 0) (if seN op then r2 else 0) imm aq rl p s, H) :=
  tab_lift (fun _ _ => rfl) rfl (tab_at (clean_tab rd r1 r2 imm p s aq rl) h)
end Go.Lev.Seat

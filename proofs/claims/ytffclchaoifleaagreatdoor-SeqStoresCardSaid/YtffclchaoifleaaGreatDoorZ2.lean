/- A part of the proof: see the last text of this claim. -/
import Derived.Test.YtffclchaoifleaaGreatDoorKd
import Derived.Test.YtffclchaoifleaaGreatDoorWb
set_option linter.unusedVariables false
set_option linter.unusedSimpArgs false
set_option linter.constructorNameAsVariable false
namespace Go.Lev.Seat
open Go Go.Lev
theorem ofInt_nat (x : Nat) (h : x < 18446744073709551616) : (BitVec.ofInt 64 (x : Int)).toNat = x := by
  simp [BitVec.toNat_ofInt]; omega
theorem or_byte (y b : Nat) (hy : y < 72057594037927936) (hb : b < 256) : or64 ((y * 256 : Nat) : Int) (b : Int) = ((y * 256 + b : Nat) : Int) := by
  unfold or64
  have hk : IntKind.u64.bits = 64 := rfl
  rw [hk, BitVec.toNat_or, ofInt_nat _ (by omega), ofInt_nat _ (by omega)]
  have h : y * 256 ||| b = y * 256 + b := by
    have := Nat.shiftLeft_add_eq_or_of_lt (i := 8) (b := b) (by omega) y
    rw [Nat.shiftLeft_eq] at this
    exact this.symm
  rw [h, IntKind.wrap_u64]
  omega
theorem shl8_nat (y : Nat) (hy : y < 72057594037927936) : shl8 (y : Int) = ((y * 256 : Nat) : Int) := by
  unfold shl8
  have : (2 : Int) ^ (min (8 : Int).toNat IntKind.u64.bits) = 256 := rfl
  rw [this, IntKind.wrap_u64]
  omega
theorem shr8_nat (w : Nat) : shr8 (w : Int) = ((w / 256 : Nat) : Int) := by
  unfold shr8
  have : (2 : Int) ^ (min (8 : Int).toNat IntKind.u64.bits) = 256 := rfl
  rw [this, Int.fdiv_eq_ediv_of_nonneg _ (by omega)]
  omega
theorem byte_nat (w : Nat) : IntKind.u64.wrap (IntKind.u8.wrap (w : Int)) = ((w % 256 : Nat) : Int) := by
  rw [IntKind.wrap_u64]
  have : IntKind.u8.wrap (w : Int) = (w : Int) % 256 := by
    simp [IntKind.wrap, IntKind.bits, IntKind.signed]
  rw [this]
  omega
theorem ofB_nat : ∀ (n w : Nat), n ≤ 8 → ofB n (w : Int) 0 = ((w % 2 ^ (8 * n) : Nat) : Int)
  | 0, w, _ => by simp [ofB, Nat.mod_one]
  | n + 1, w, hn => by
    have hlt : w / 256 % 2 ^ (8 * n) < 72057594037927936 := by
      have h1 : w / 256 % 2 ^ (8 * n) < 2 ^ (8 * n) := Nat.mod_lt _ (Nat.two_pow_pos _)
      have h2 : (2 : Nat) ^ (8 * n) ≤ 2 ^ 56 := Nat.pow_le_pow_right (by omega) (by omega)
      omega
    rw [ofB, shr8_nat, ofB_nat n (w / 256) (by omega), shl8_nat _ hlt, byte_nat, or_byte _ _ hlt (Nat.mod_lt _ (by omega))]
    have : (2 : Nat) ^ (8 * (n + 1)) = 256 * 2 ^ (8 * n) := by rw [show 8 * (n + 1) = 8 * n + 8 by omega, Nat.pow_add]; omega
    rw [this, Nat.mod_mul]
    congr 1
    omega
theorem and_nat (w n : Nat) (hw : w < 18446744073709551616) (hn : n ≤ 63) : and64 (w : Int) ((2 : Int) ^ n - 1) = ((w % 2 ^ n : Nat) : Int) := by
  unfold and64
  rw [and_mask _ n (by omega) (by omega) hn]
  simp
theorem x3_eq (v : Int) (h0 : 0 ≤ v) (h1 : v < 18446744073709551616) : x3_0 v = v % 2 ^ 8 ∧ x3_1 v = v % 2 ^ 16 ∧ x3_2 v = v % 2 ^ 32 ∧ x3_3 v = v % 2 ^ 64 := by
  obtain ⟨w, rfl⟩ : ∃ w : Nat, v = w := ⟨v.toNat, by omega⟩
  have hw : w < 18446744073709551616 := by omega
  have key : ∀ n, n ≤ 7 → and64 (ofB n (and64 (w : Int) ((2 : Int) ^ (8 * n) - 1)) 0) ((2 : Int) ^ (8 * n) - 1) = ((w % 2 ^ (8 * n) : Nat) : Int) := fun n hn => by
    have e : w % 2 ^ (8 * n) ≤ w := Nat.mod_le _ _
    rw [and_nat w _ hw (by omega), ofB_nat n _ (by omega), Nat.mod_mod, and_nat _ _ (by omega) (by omega), Nat.mod_mod]
  refine ⟨?_, ?_, ?_, ?_⟩
  · have := key 1 (by omega); simpa [x3_0] using this
  · have := key 2 (by omega); simpa [x3_1] using this
  · have := key 4 (by omega); simpa [x3_2] using this
  · have := ofB_nat 8 w (by omega); simpa [x3_3] using this
end Go.Lev.Seat

/- A part of the proof: see the last text of this claim. -/
import Derived.Test.YtffclchaoifleaaGreatDoorTz
import Derived.Test.YtffclchaoifleaaGreatDoorLvF
import Derived.Test.YtffclchaoifleaaGreatDoorLvG
import Derived.Test.YtffclchaoifleaaGreatDoorWb
set_option linter.unusedVariables false
set_option linter.unusedSimpArgs false
set_option linter.constructorNameAsVariable false
namespace Go.Lev.Seat
open Go Go.Lev
set_option linter.unusedSimpArgs false
set_option linter.unusedVariables false
/-- ref01.Zext takes the low n bits. -/
theorem shr_and (v : Int) (i : Nat) (h0 : 0 ≤ v) (h1 : v < 18446744073709551616) (hi : i < 64) :
    IntKind.u64.wrap ((BitVec.ofInt IntKind.u64.bits (v.fdiv (2 ^ min i 64)) &&& BitVec.ofInt IntKind.u64.bits 1).toNat : Nat) = v / 2 ^ i % 2 := by
  have := and_mask (v / 2 ^ i) 1 (Int.ediv_nonneg h0 (by exact Int.le_of_lt (Int.pow_pos (by omega)))) (by
    have : v / 2 ^ i ≤ v := Int.ediv_le_self _ h0
    omega) (by omega)
  rw [Nat.min_eq_left (by omega), Int.fdiv_eq_ediv_of_nonneg _ (Int.le_of_lt (Int.pow_pos (by omega)))]
  simpa using this
theorem rzext_run (v : Int) (n : Nat) (hn : n ≤ 64) (h0 : 0 ≤ v) (h1 : v < 18446744073709551616) : Run 1 n_ref01_Zext [.int .u64 v, .int .i64 n] (.int .u64 (v % 2 ^ n)) := by
  refine Run.text (F := L_ref01_Zext) (fun _ _ => rfl) rfl rfl (by simp [L_ref01_Zext]) rfl fun d hd => ?_
  show wp P0 (T K d) 0 K _ _ _
  refine lwp_midH [] (fun env => evO env (.tmp 0) = .int .u64 v ∧ evO env (.tmp 1) = .int .i64 n) (by simp) ?_
  rintro env ⟨a0, a1⟩
  refine lwp_midH [] (fun env => evO env (.tmp 0) = .int .u64 v ∧ evO env (.tmp 1) = .int .i64 n ∧ evO env (.tmp 5) = .int .u64 0) (by simp [a0, a1]) ?_
  clear a0 a1
  rintro env ⟨a0, a1, a5⟩
  refine lwp_midE (fun env _ => evO env (.tmp 5) = .int .u64 (v % 2 ^ n)) ?_ ?_
  · refine lwp_midH [] (fun env => evO env (.tmp 0) = .int .u64 v ∧ evO env (.tmp 1) = .int .i64 n ∧ evO env (.tmp 5) = .int .u64 0 ∧ evO env (.tmp 6) = .int .i64 0) (by simp [a0, a1, a5]) ?_
    clear a0 a1 a5
    rintro env ⟨a0, a1, a5, a6⟩
    refine lwp_block_of (lwp_loopE (fun m env H' => ∃ i : Nat, i + m = n ∧ evO env (.tmp 0) = .int .u64 v ∧ evO env (.tmp 1) = .int .i64 n ∧ evO env (.tmp 5) = .int .u64 (v % 2 ^ i) ∧ evO env (.tmp 6) = .int .i64 i)
      n ?_ ⟨0, by omega, a0, a1, by rw [a5]; simp [Int.emod_one], a6⟩ (by have : K = 100000 := rfl; omega))
    clear a0 a1 a5 a6
    rintro m env H' ⟨i, hi, a0, a1, a5, a6⟩ hm
    have w1 : IntKind.i64.wrap ((i : Int) + 1) = ((i + 1 : Nat) : Int) := by rw [wrap_i64_id] <;> omega
    have w2 : IntKind.u64.wrap (i : Int) = i := by rw [IntKind.wrap_u64]; omega
    by_cases hlt : i < n
    · have e2 : (i : Int) < (n : Int) := by omega
      have e3 : (i : Int) < 64 := by omega
      have hs := shr_and v i h0 h1 (by omega)
      have hmin : min i 64 = i := by omega
      have hstep : v % 2 ^ (i + 1) = v % 2 ^ i + 2 ^ i * (v / 2 ^ i % 2) := by
        obtain ⟨x, rfl⟩ : ∃ x : Nat, v = x := ⟨v.toNat, by omega⟩
        have := Nat.mod_pow_succ (b := 2) (x := x) (k := i)
        exact_mod_cast this
      have hlt2 : (0 : Int) < 2 ^ i := Int.pow_pos (by omega)
      have hle2 : (2 : Int) ^ i ≤ 2 ^ 63 := by exact_mod_cast Nat.pow_le_pow_right (n := 2) (by omega) (show i ≤ 63 by omega)
      have hm1 := Int.emod_nonneg v (Int.ne_of_gt hlt2)
      have hm2 := Int.emod_lt_of_pos v hlt2
      have hm3 : v % 2 ^ i ≤ v := by
        obtain ⟨x, rfl⟩ : ∃ x : Nat, v = x := ⟨v.toNat, by omega⟩
        exact_mod_cast Nat.mod_le x (2 ^ i)
      have hb01 : v / 2 ^ i % 2 = 0 ∨ v / 2 ^ i % 2 = 1 := by omega
      have hs' := hs
      simp at hs'
      by_cases hb : v / 2 ^ i % 2 = 1
      · simp [a0, a1, a5, a6, e2, e3, w1, w2, hs', hb]
        refine ⟨m - 1, by omega, i + 1, by omega, ?_, by omega⟩
        rw [hstep, hb, hmin, IntKind.wrap_u64, IntKind.wrap_u64]
        have e8 : (2 : Int) ^ i % 18446744073709551616 = 2 ^ i := Int.emod_eq_of_lt (by omega) (by omega)
        rw [e8]
        omega
      · simp [a0, a1, a5, a6, e2, e3, w1, w2, hs', hb]
        refine ⟨m - 1, by omega, i + 1, by omega, ?_, by omega⟩
        have hb0 : v / 2 ^ i % 2 = 0 := by omega
        rw [hstep, hb0]
        simp
    · have e2 : ¬ (i : Int) < (n : Int) := by omega
      have e4 : i = n := by omega
      subst e4
      by_cases e3 : (i : Int) < 64
      · simp [a0, a1, a5, a6, e2, e3]
      · simp [a0, a1, a5, a6, e2, e3]
  · intro env H a5
    simp [a5, L_ref01_Zext]
end Go.Lev.Seat

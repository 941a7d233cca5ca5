/- A part of the proof: see the last text of this claim. -/
import Derived.Test.YtcaogimdpcaohaaDoorN3
namespace Go.Proofs.YtcaogimdpcaohaaDoor.V
open Go Go.Lev
set_option linter.unusedSimpArgs false
set_option linter.unusedVariables false

theorem alive_run (fl : Nat) : T 300 20 5 fl [] [] = some (.bool true, []) := by kernel_rfl

theorem numbers_run (fl : Nat) (l : List UInt8) (n : Int) (h0 : -9223372036854775808 ≤ n) (h1 : n ≤ 9223372036854775807) :
    T 300 21 3 fl [strV l, .int .i64 n] [] = some (.bool true, []) := by
  refine T_scalar (F := L3) rfl rfl (by simp [L3]) rfl ?_
  have ha := alive_run
  by_cases hl : 200 < l.length
  · have e : (200 : Int) < l.length := by omega
    simp [L3, ha, e]
  · have e : ¬ (200 : Int) < l.length := by omega
    have r1 : ∀ fl, T 300 20 6 fl [strV l] [] = some (optT (num l), []) := fun fl => num_run 300 19 fl l [] (by omega)
    have r2 : ∀ fl, T 300 20 7 fl [strV l] [] = some (optT (num l), []) := fun fl => by rw [← refNum_num]; exact refnum_run 300 19 fl l [] (by omega) (by omega)
    have r3 : ∀ fl, T 300 20 8 fl [strV l] [] = some (optT (reg l), []) := fun fl => reg_run 300 16 fl l [] (by omega)
    have r4 : ∀ fl, T 300 20 9 fl [strV l] [] = some (optT (reg l), []) := fun fl => by rw [← refReg_reg]; exact refreg_run 300 18 fl l [] (by omega) (by omega)
    have r5 : ∀ fl, T 300 20 10 fl [.int .i64 n] [] = some (strV (Lib.itoa n), []) := fun fl => digits_run 300 19 fl n [] (by omega) h0 h1
    have r6 : ∀ fl, T 300 20 6 fl [strV (Lib.itoa n)] [] = some (optT (some n), []) := fun fl => by
      rw [← num_itoa n h0 h1]
      exact num_run 300 19 fl _ [] (by have := Lib.itoa_length_le n h0 h1; omega)
    refine lwp_mid (fun s => s.heap = [] ∧ evO s.env (.tmp 0) = strV l ∧ evO s.env (.tmp 1) = .int .i64 n) (by simp) ?_
    rintro env H ⟨rfl, a0, a1⟩
    refine lwp_mid (fun s => s.heap = [] ∧ evO s.env (.tmp 0) = strV l ∧ evO s.env (.tmp 1) = .int .i64 n) (by simp [ha, a0, a1]) ?_
    rintro env H ⟨rfl, a0, a1⟩
    refine lwp_mid (fun s => s.heap = [] ∧ evO s.env (.tmp 0) = strV l ∧ evO s.env (.tmp 1) = .int .i64 n) (by simp [ha, a0, a1, e]) ?_
    rintro env H ⟨rfl, a0, a1⟩
    obtain ⟨x, b, q1⟩ : ∃ x b, optT (num l) = .tuple #[.int .i64 x, .bool b] := by cases num l <;> exact ⟨_, _, rfl⟩
    obtain ⟨y, c, q2⟩ : ∃ x b, optT (reg l) = .tuple #[.int .i64 x, .bool b] := by cases reg l <;> exact ⟨_, _, rfl⟩
    have q3 : optT (some n) = .tuple #[.int .i64 n, .bool true] := rfl
    refine lwp_mid (fun s => s.heap = [] ∧ evO s.env (.tmp 0) = strV l ∧ evO s.env (.tmp 1) = .int .i64 n ∧ evO s.env (.tmp 5) = .int .i64 x ∧ evO s.env (.tmp 6) = .bool b) (by simp [r1, q1, a0, a1]) ?_
    rintro env H ⟨rfl, a0, a1, a5, a6⟩
    refine lwp_mid (fun s => s.heap = [] ∧ evO s.env (.tmp 0) = strV l ∧ evO s.env (.tmp 1) = .int .i64 n ∧ evO s.env (.tmp 5) = .int .i64 x ∧ evO s.env (.tmp 6) = .bool b ∧ evO s.env (.tmp 7) = .int .i64 x ∧ evO s.env (.tmp 8) = .bool b) (by simp [r2, q1, a0, a1, a5, a6]) ?_
    rintro env H ⟨rfl, a0, a1, a5, a6, a7, a8⟩
    refine lwp_mid (fun s => s.heap = [] ∧ evO s.env (.tmp 0) = strV l ∧ evO s.env (.tmp 1) = .int .i64 n ∧ evO s.env (.tmp 5) = .int .i64 x ∧ evO s.env (.tmp 6) = .bool b ∧ evO s.env (.tmp 7) = .int .i64 x ∧ evO s.env (.tmp 8) = .bool b ∧ evO s.env (.tmp 9) = .int .i64 y ∧ evO s.env (.tmp 10) = .bool c) (by simp [r3, q2, a0, a1, a5, a6, a7, a8]) ?_
    rintro env H ⟨rfl, a0, a1, a5, a6, a7, a8, a9, a10⟩
    refine lwp_mid (fun s => s.heap = [] ∧ evO s.env (.tmp 0) = strV l ∧ evO s.env (.tmp 1) = .int .i64 n ∧ evO s.env (.tmp 5) = .int .i64 x ∧ evO s.env (.tmp 6) = .bool b ∧ evO s.env (.tmp 7) = .int .i64 x ∧ evO s.env (.tmp 8) = .bool b ∧ evO s.env (.tmp 9) = .int .i64 y ∧ evO s.env (.tmp 10) = .bool c ∧ evO s.env (.tmp 11) = .int .i64 y ∧ evO s.env (.tmp 12) = .bool c) (by simp [r4, q2, a0, a1, a5, a6, a7, a8, a9, a10]) ?_
    rintro env H ⟨rfl, a0, a1, a5, a6, a7, a8, a9, a10, a11, a12⟩
    simp [L3, r5, r6, q3, ha, a0, a1, a5, a6, a7, a8, a9, a10, a11, a12]
end Go.Proofs.YtcaogimdpcaohaaDoor.V

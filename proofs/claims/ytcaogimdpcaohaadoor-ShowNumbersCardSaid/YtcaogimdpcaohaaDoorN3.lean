/- A part of the proof: see the last text of this claim. -/
import Derived.Test.YtcaogimdpcaohaaDoorN2
namespace Go.Proofs.YtcaogimdpcaohaaDoor.V
open Go Go.Lev
set_option linter.unusedSimpArgs false
set_option linter.unusedVariables false

theorem digit_byte (m : Nat) : (UInt8.ofNat (IntKind.u8.wrap (IntKind.u64.wrap (48 + (m : Int) % 10))).toNat) = UInt8.ofNat (48 + m % 10) := by
  have : (IntKind.u8.wrap (IntKind.u64.wrap (48 + (m : Int) % 10))).toNat = 48 + m % 10 := by
    simp only [IntKind.wrap_u8, IntKind.wrap_u64]; omega
  rw [this]

theorem digits_run (k d fl : Nat) (n : Int) (H : Heap) (hk : 30 ≤ k) (h0 : -9223372036854775808 ≤ n) (h1 : n ≤ 9223372036854775807) : T k (d + 1) 10 fl [.int .i64 n] H = some (strV (Lib.itoa n), H) := by
  refine T_scalar (F := L10) rfl rfl (by simp [L10]) rfl ?_
  refine lwp_mid (fun s => evO s.env (.tmp 0) = .int .i64 n) ?_ ?_
  · simp
  intro env H' h
  refine lwp_mid (fun s => evO s.env (.tmp 0) = .int .i64 n ∧ evO s.env (.tmp 3) = strV []) ?_ ?_
  · simp [h]
  intro env H' ⟨h, h3⟩
  refine lwp_mid (fun s => evO s.env (.tmp 0) = .int .i64 n ∧ evO s.env (.tmp 3) = strV [] ∧ evO s.env (.tmp 4) = .int .u64 (IntKind.u64.wrap n)) ?_ ?_
  · simp [h, h3]
  intro env H' ⟨h, h3, h4⟩
  refine lwp_mid (fun s => evO s.env (.tmp 0) = .int .i64 n ∧ evO s.env (.tmp 3) = strV [] ∧ evO s.env (.tmp 4) = .int .u64 (n.natAbs : Nat)) ?_ ?_
  · by_cases hn : n < 0
    · have e : IntKind.u64.wrap (0 - IntKind.u64.wrap n) = (n.natAbs : Nat) := by simp only [IntKind.wrap_u64]; omega
      simp [h, h3, h4, hn]
      simpa using e
    · have e : IntKind.u64.wrap n = (n.natAbs : Nat) := by simp only [IntKind.wrap_u64]; omega
      simp [h, h3, h4, hn]
      simpa using e
  intro env H' ⟨h, h3, h4⟩
  have hu : n.natAbs ≤ 9223372036854775808 := by omega
  refine lwp_mid (fun s => evO s.env (.tmp 0) = .int .i64 n ∧ evO s.env (.tmp 3) = strV (Lib.decDigits n.natAbs)) ?_ ?_
  · refine lwp_block_of (lwp_loop (fun s => evO s.env (.tmp 0) = .int .i64 n ∧ ∃ (m : Nat) (a : List UInt8), m ≤ 9223372036854775808 ∧ evO s.env (.tmp 3) = strV a ∧ evO s.env (.tmp 4) = .int .u64 m ∧ Lib.decDigits n.natAbs = Lib.decDigits m ++ a)
      (fun s => match evO s.env (.tmp 4) with | .int _ m => (Lib.decDigits m.toNat).length | _ => 0) ?_ ⟨h, n.natAbs, [], hu, h3, h4, by simp⟩ ?_)
    · rintro ⟨env, H'⟩ ⟨h, m, a, hm, h3, h4, he⟩ _
      have ha : a.length ≤ 19 := by
        have q1 := congrArg List.length he
        have q2 := decDigits_len n.natAbs (by omega)
        simp at q1
        omega
      have hs : (a.length + 1) ≤ 4611686018427387904 := by omega
      have e2 : IntKind.u64.wrap ((m : Int) / 10) = ((m / 10 : Nat) : Int) := by simp only [IntKind.wrap_u64]; omega
      have e4 : IntKind.u8.wrap (IntKind.u64.wrap (48 + (m : Int) % 10)) = ((48 + m % 10 : Nat) : Int) := by
        simp only [IntKind.wrap_u8, IntKind.wrap_u64]; omega
      have e5 : (m : Int).tmod 10 = (m : Int) % 10 := Int.tmod_eq_emod_of_nonneg (by omega)
      have e8 : (m : Int).tdiv 10 = (m : Int) / 10 := Int.tdiv_eq_ediv_of_nonneg (by omega)
      obtain ⟨c, hc⟩ : ∃ c, c = UInt8.ofNat (48 + m % 10) := ⟨_, rfl⟩
      have e3 : UInt8.ofNat (48 + (m : Int) % 10).toNat = c := by rw [hc]; congr 1
      have ea := bv_sadd [c] a (by simp; omega)
      by_cases hz : m < 10
      · have e6 : (m : Int) / 10 = 0 := by omega
        have e7 : IntKind.u64.wrap 0 = 0 := by decide
        simp [h, h3, h4, e3, e4, e5, e8, e6, e7, ea, fillL, setSeg, zeroRow, Value.cells, b2sV, rdN, bytesOf, byteOf?]
        have h9 : m % 10 = m := by omega
        rw [h9] at hc
        rw [he, decDigits_small hz, hc]
        rfl
      · have e6 : ¬ (m : Int) / 10 = 0 := by omega
        have e7 : (Lib.decDigits (m / 10)).length < (Lib.decDigits m).length := by
          rw [decDigits_big hz]; simp
        simp [h, h3, h4, e2, e3, e4, e5, e8, e6, ea, fillL, setSeg, zeroRow, Value.cells, b2sV, rdN, bytesOf, byteOf?]
        have e9 : ((m : Int) / 10).toNat = m / 10 := by omega
        rw [e9]
        refine ⟨⟨m / 10, by omega, by simp, ?_⟩, e7⟩
        rw [he, decDigits_big hz, hc]
        simp
    · simp [h4]
      have := decDigits_len n.natAbs (by omega)
      omega
  intro env H' ⟨h, h3⟩
  have hl := decDigits_len n.natAbs (by omega)
  by_cases hn : n < 0
  · have ea := bv_sadd [45] (Lib.decDigits n.natAbs) (by simp; omega)
    simp [h, h3, hn, ea, L10, Lib.itoa]
  · have e : n.toNat = n.natAbs := by omega
    simp [h, h3, hn, L10, Lib.itoa, e]
end Go.Proofs.YtcaogimdpcaohaaDoor.V

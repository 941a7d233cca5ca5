/- A part of the proof: see the last text of this claim. -/
import Derived.Test.YtffclchaoifleaaGreatDoorKd
import Derived.Test.YtffclchaoifleaaGreatDoorLvF
import Derived.Test.YtffclchaoifleaaGreatDoorLvG
set_option linter.unusedVariables false
set_option linter.unusedSimpArgs false
set_option linter.constructorNameAsVariable false
namespace Go.Lev.Seat
open Go Go.Lev
set_option linter.unusedSimpArgs false
set_option linter.unusedVariables false
theorem stores_main {d : Nat} {a v n A x sz : Int} {k : Nat} {img : Box} {s : Value} {H' : Heap} (hn : n.tmod 4 = (k : Int)) (hk : k < 4)
    (hA : (IntKind.u64.wrap (IntKind.u64.wrap ((IntKind.u64.wrap a).tdiv 8) * 8)).tmod 64 = A) (hs : prog4[k]? = some s)
    (hal : ∀ fl H, T K d n_law11_alive fl [] H = some (.bool true, H))
    (hAs : T K d n_asm_Assemble 0 [s, .int .i64 64] [prog] = some (.tuple #[.slice (some ⟨1, 0, some 0⟩) 64 1, .slice none 0 0, .int .i64 0, .int .i64 0], [prog, img]))
    (hAl : T K d n_seq_Alone 0 [.agg (hartL 0 v A 0 0).toArray, .slice (some ⟨1, 0, some 0⟩) 64 1, .int .i64 5] [prog, img, hb v A] = some (.tuple #[.agg (hartL 8 v A x 2).toArray, .slice (some ⟨3, 0, some 0⟩) 64 1, .slice (some ⟨4, 0, some 0⟩) 3 16], H'))
    (hSz : ∀ fl H, T K d n_ref05_Size fl [.int .i64 (18 + (k : Int))] H = some (.int .i64 sz, H)) (hsz : 0 ≤ sz ∧ sz ≤ 8)
    (hZ : ∀ fl H, T K d n_ref01_Zext fl [.int .u64 v, .int .i64 (8 * sz)] H = some (.int .u64 x, H)) :
    wp P0 (T K d) 0 K L_law11_SeqStores.body (fun r s => (r = .ret ∨ r = .normal) ∧ retQ L_law11_SeqStores.results (.bool true) s) ⟨initEnv [.int .u8 a, .int .u64 v, .int .u8 n], []⟩ := by
  show wp P0 (T K d) 0 K _ _ _
  refine lwp_midH [] (fun env => evO env (.tmp 0) = .int .u8 a ∧ evO env (.tmp 1) = .int .u64 v ∧ evO env (.tmp 2) = .int .u8 n) (by simp) ?_
  rintro env ⟨a0, a1, a2⟩
  refine lwp_midH [] (fun env => evO env (.tmp 0) = .int .u8 a ∧ evO env (.tmp 1) = .int .u64 v ∧ evO env (.tmp 2) = .int .u8 n) (by simp [a0, a1, a2, hal]) ?_
  clear a0 a1 a2
  rintro env ⟨a0, a1, a2⟩
  have hkw : IntKind.i64.wrap (k : Int) = k := by rw [wrap_i64_id] <;> omega
  refine lwp_midH [] (fun env => evO env (.tmp 0) = .int .u8 a ∧ evO env (.tmp 1) = .int .u64 v ∧ evO env (.tmp 7) = .int .i64 k) (by simp [a0, a1, a2, hn, hkw]) ?_
  clear a0 a1 a2
  rintro env ⟨a0, a1, a7⟩
  refine lwp_midH [] (fun env => evO env (.tmp 1) = .int .u64 v ∧ evO env (.tmp 7) = .int .i64 k ∧ evO env (.tmp 8) = .int .u64 A) (by simp [a0, a1, a7, hA]) ?_
  clear a0 a1 a7
  rintro env ⟨a1, a7, a8⟩
  refine lwp_midH [prog] (fun env => evO env (.tmp 1) = .int .u64 v ∧ evO env (.tmp 7) = .int .i64 k ∧ evO env (.tmp 8) = .int .u64 A ∧ evO env (.tmp 9) = .slice (some ⟨0, 0, some 0⟩) 4 1) (by
    simp [a1, a7, a8, fillL, zeroRow, setSeg]
    rfl) ?_
  clear a1 a7 a8
  rintro env ⟨a1, a7, a8, a9⟩
  have hrd : rd1 [prog] ⟨0, k, some 0⟩ = some s := by simp [rd1, prog, hs]
  refine lwp_midH [prog, img] (fun env => evO env (.tmp 1) = .int .u64 v ∧ evO env (.tmp 7) = .int .i64 k ∧ evO env (.tmp 8) = .int .u64 A ∧ evO env (.tmp 10) = .slice (some ⟨1, 0, some 0⟩) 64 1 ∧ evO env (.tmp 13) = .int .i64 0) (by
    have hk4 : (k : Int) < 4 := by omega
    simp [a1, a7, a8, a9, hrd, hAs, hk4]) ?_
  clear a1 a7 a8 a9
  rintro env ⟨a1, a7, a8, a10, a13⟩
  refine lwp_midH [prog, img, hb 0 0] (fun env => evO env (.tmp 1) = .int .u64 v ∧ evO env (.tmp 7) = .int .i64 k ∧ evO env (.tmp 8) = .int .u64 A ∧ evO env (.tmp 10) = .slice (some ⟨1, 0, some 0⟩) 64 1 ∧ evO env (.tmp 13) = .int .i64 0 ∧ evO env (.tmp 14) = .pointer (some ⟨2, 0, some 0⟩)) (by
    simp [a1, a7, a8, a10, a13, fillV, fillL, hb, hartL]) ?_
  clear a1 a7 a8 a10 a13
  rintro env ⟨a1, a7, a8, a10, a13, a14⟩
  refine lwp_midH [prog, img, hb v 0] (fun env => evO env (.tmp 1) = .int .u64 v ∧ evO env (.tmp 7) = .int .i64 k ∧ evO env (.tmp 8) = .int .u64 A ∧ evO env (.tmp 10) = .slice (some ⟨1, 0, some 0⟩) 64 1 ∧ evO env (.tmp 13) = .int .i64 0 ∧ evO env (.tmp 14) = .pointer (some ⟨2, 0, some 0⟩)) (by
    simp [a1, a7, a8, a10, a13, a14, hb, hartL]) ?_
  clear a1 a7 a8 a10 a13 a14
  rintro env ⟨a1, a7, a8, a10, a13, a14⟩
  refine lwp_midH [prog, img, hb v A] (fun env => evO env (.tmp 1) = .int .u64 v ∧ evO env (.tmp 7) = .int .i64 k ∧ evO env (.tmp 8) = .int .u64 A ∧ evO env (.tmp 10) = .slice (some ⟨1, 0, some 0⟩) 64 1 ∧ evO env (.tmp 13) = .int .i64 0 ∧ evO env (.tmp 14) = .pointer (some ⟨2, 0, some 0⟩)) (by
    simp [a1, a7, a8, a10, a13, a14, hb, hartL]) ?_
  clear a1 a7 a8 a10 a13 a14
  rintro env ⟨a1, a7, a8, a10, a13, a14⟩
  have hl : rdN [prog, img, hb v A] ⟨2, 0, some 0⟩ 34 = some (hartL 0 v A 0 0) := rfl
  refine lwp_midH (H' ++ [{ cells := hartL 8 v A x 2 }]) (fun env => evO env (.tmp 1) = .int .u64 v ∧ evO env (.tmp 7) = .int .i64 k ∧ evO env (.tmp 13) = .int .i64 0 ∧ evO env (.tmp 15) = .pointer (some ⟨H'.length, 0, some 0⟩) ∧ evO env (.tmp 16) = .slice (some ⟨3, 0, some 0⟩) 64 1 ∧ evO env (.tmp 17) = .slice (some ⟨4, 0, some 0⟩) 3 16) (by
    generalize hartL 0 v A 0 0 = h0 at hl hAl
    simp [a1, a7, a8, a10, a13, a14, hl, hAl, hartL, wrN_app0 _ _ _ _ _ _ (Nat.zero_le H'.length), setSeg, Value.oneCell']) ?_
  clear a1 a7 a8 a10 a13 a14
  rintro env ⟨a1, a7, a13, a15, a16, a17⟩
  have hw : IntKind.i64.wrap (18 + (k : Int)) = 18 + k := by rw [wrap_i64_id] <;> omega
  refine lwp_midH (H' ++ [{ cells := hartL 8 v A x 2 }]) (fun env => evO env (.tmp 1) = .int .u64 v ∧ evO env (.tmp 13) = .int .i64 0 ∧ evO env (.tmp 15) = .pointer (some ⟨H'.length, 0, some 0⟩) ∧ evO env (.tmp 16) = .slice (some ⟨3, 0, some 0⟩) 64 1 ∧ evO env (.tmp 17) = .slice (some ⟨4, 0, some 0⟩) 3 16 ∧ evO env (.tmp 18) = .int .i64 sz) (by
    simp [a1, a7, a13, a15, a16, a17, hw, hSz]) ?_
  clear a1 a7 a13 a15 a16 a17
  rintro env ⟨a1, a13, a15, a16, a17, a18⟩
  have hw8 : IntKind.i64.wrap (8 * sz) = 8 * sz := by rw [wrap_i64_id] <;> omega
  simp [a1, a13, a15, a16, a17, a18, hw8, hZ, hal, hartL, L_law11_SeqStores]
end Go.Lev.Seat

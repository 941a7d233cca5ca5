/- A part of the proof: see the last text of this claim. -/
import Derived.Test.YtffclchaoifleaaGreatDoorKd
set_option linter.unusedVariables false
set_option linter.unusedSimpArgs false
set_option linter.constructorNameAsVariable false
namespace Go.Lev.Seat
open Go Go.Lev
set_option maxRecDepth 100000
theorem as0 : T 300 19 n_asm_Assemble 0 [.string ⟨#[115, 98, 32, 120, 49, 44, 32, 48, 40, 120, 50, 41, 10, 108, 98, 117, 32, 120, 51, 44, 32, 48, 40, 120, 50, 41, 10, 104, 97, 108, 116]⟩, .int .i64 64] [prog] = some (.tuple #[.slice (some ⟨1, 0, some 0⟩) 64 1, .slice none 0 0, .int .i64 0, .int .i64 0], [prog, img0]) := by kernel_rfl
theorem al0_0 (v : Int) : fst (T 300 19 n_seq_Alone 0 [.agg (hartL 0 v 0 0 0).toArray, .slice (some ⟨1, 0, some 0⟩) 64 1, .int .i64 5] [prog, img0, hb v 0]) = some (.tuple #[.agg (hartL 8 v 0 (x3_0 v) 2).toArray, .slice (some ⟨3, 0, some 0⟩) 64 1, .slice (some ⟨4, 0, some 0⟩) 3 16]) := by kernel_rfl
theorem al0_1 (v : Int) : fst (T 300 19 n_seq_Alone 0 [.agg (hartL 0 v 8 0 0).toArray, .slice (some ⟨1, 0, some 0⟩) 64 1, .int .i64 5] [prog, img0, hb v 8]) = some (.tuple #[.agg (hartL 8 v 8 (x3_0 v) 2).toArray, .slice (some ⟨3, 0, some 0⟩) 64 1, .slice (some ⟨4, 0, some 0⟩) 3 16]) := by kernel_rfl
theorem al0_2 (v : Int) : fst (T 300 19 n_seq_Alone 0 [.agg (hartL 0 v 16 0 0).toArray, .slice (some ⟨1, 0, some 0⟩) 64 1, .int .i64 5] [prog, img0, hb v 16]) = some (.tuple #[.agg (hartL 8 v 16 (x3_0 v) 2).toArray, .slice (some ⟨3, 0, some 0⟩) 64 1, .slice (some ⟨4, 0, some 0⟩) 3 16]) := by kernel_rfl
theorem al0_3 (v : Int) : fst (T 300 19 n_seq_Alone 0 [.agg (hartL 0 v 24 0 0).toArray, .slice (some ⟨1, 0, some 0⟩) 64 1, .int .i64 5] [prog, img0, hb v 24]) = some (.tuple #[.agg (hartL 8 v 24 (x3_0 v) 2).toArray, .slice (some ⟨3, 0, some 0⟩) 64 1, .slice (some ⟨4, 0, some 0⟩) 3 16]) := by kernel_rfl
theorem al0_4 (v : Int) : fst (T 300 19 n_seq_Alone 0 [.agg (hartL 0 v 32 0 0).toArray, .slice (some ⟨1, 0, some 0⟩) 64 1, .int .i64 5] [prog, img0, hb v 32]) = some (.tuple #[.agg (hartL 8 v 32 (x3_0 v) 2).toArray, .slice (some ⟨3, 0, some 0⟩) 64 1, .slice (some ⟨4, 0, some 0⟩) 3 16]) := by kernel_rfl
theorem al0_5 (v : Int) : fst (T 300 19 n_seq_Alone 0 [.agg (hartL 0 v 40 0 0).toArray, .slice (some ⟨1, 0, some 0⟩) 64 1, .int .i64 5] [prog, img0, hb v 40]) = some (.tuple #[.agg (hartL 8 v 40 (x3_0 v) 2).toArray, .slice (some ⟨3, 0, some 0⟩) 64 1, .slice (some ⟨4, 0, some 0⟩) 3 16]) := by kernel_rfl
theorem al0_6 (v : Int) : fst (T 300 19 n_seq_Alone 0 [.agg (hartL 0 v 48 0 0).toArray, .slice (some ⟨1, 0, some 0⟩) 64 1, .int .i64 5] [prog, img0, hb v 48]) = some (.tuple #[.agg (hartL 8 v 48 (x3_0 v) 2).toArray, .slice (some ⟨3, 0, some 0⟩) 64 1, .slice (some ⟨4, 0, some 0⟩) 3 16]) := by kernel_rfl
theorem al0_7 (v : Int) : fst (T 300 19 n_seq_Alone 0 [.agg (hartL 0 v 56 0 0).toArray, .slice (some ⟨1, 0, some 0⟩) 64 1, .int .i64 5] [prog, img0, hb v 56]) = some (.tuple #[.agg (hartL 8 v 56 (x3_0 v) 2).toArray, .slice (some ⟨3, 0, some 0⟩) 64 1, .slice (some ⟨4, 0, some 0⟩) 3 16]) := by kernel_rfl
end Go.Lev.Seat

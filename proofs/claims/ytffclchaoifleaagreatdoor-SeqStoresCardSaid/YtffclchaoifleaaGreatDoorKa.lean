/- A part of the proof: see the last text of this claim. -/
import Derived.Test.YtffclchaoifleaaGreatDoorKd
set_option linter.unusedVariables false
set_option linter.unusedSimpArgs false
set_option linter.constructorNameAsVariable false
namespace Go.Lev.Seat
open Go Go.Lev
set_option maxRecDepth 100000
theorem t_alive : T 300 20 n_law11_alive 0 [] [] = some (.bool true, []) := by kernel_rfl
theorem size0 : T 300 19 n_ref05_Size 0 [.int .i64 18] [] = some (.int .i64 1, []) := by kernel_rfl
theorem size1 : T 300 19 n_ref05_Size 0 [.int .i64 19] [] = some (.int .i64 2, []) := by kernel_rfl
theorem size2 : T 300 19 n_ref05_Size 0 [.int .i64 20] [] = some (.int .i64 4, []) := by kernel_rfl
theorem size3 : T 300 19 n_ref05_Size 0 [.int .i64 21] [] = some (.int .i64 8, []) := by kernel_rfl
end Go.Lev.Seat

/- Names of operations. -/
import Derived.Test.YtcaogimdpcaohaaDoorHb
set_option linter.unusedVariables false
set_option linter.unusedSimpArgs false
set_option linter.constructorNameAsVariable false

namespace Go.Lev.Seat
open Go Go.Lev
set_option linter.unusedSimpArgs false
set_option linter.unusedVariables false
theorem name_len : nameL.length = 76 := by decide
theorem name_run (fl op : Nat) (H : Heap) (h : op < 76) (h1 : 1 ≤ op) : T 300 7 n_ops_Name fl [.int .i64 (op : Nat)] H = some (strV (nameN op), H) := by
  refine T_scalar (F := L_ops_Name) rfl rfl rfl (by simp [L_ops_Name]) rfl ?_
  have hs := fun fl H => sort_in fl op H h
  have hn : ∀ fl H, T 300 6 n_ops_names fl [] H = some (.agg (nameL.map strV).toArray, H) := fun fl H => tab_lift (d := 5) (fun _ _ => rfl) rfl (by kernel_rfl)
  have hz : ¬ sortN op = 0 := by
    have : ∀ i : Fin 76, 1 ≤ i.val → sortN i.val ≠ 0 := by decide
    exact this ⟨op, h⟩ h1
  have hg : nameL[op]? = some (nameN op) := by
    have hl : op < nameL.length := by rw [name_len]; exact h
    rw [List.getElem?_eq_getElem hl]
    simp [nameN, List.getD, hl]
  have hc : (op : Int) < 76 := by omega
  simp [L_ops_Name, hs, hn, hz, ix1V, hg, hc]
end Go.Lev.Seat

namespace Go.Lev.Seat
open Go Go.Lev
set_option linter.unusedSimpArgs false
set_option linter.unusedVariables false
theorem shift_names : ∀ i : Fin 76, (nameN i.val = [115, 108, 108, 105] ∨ nameN i.val = [115, 114, 108, 105] ∨ nameN i.val = [115, 114, 97, 105] → shiftN i.val = 6) ∧
    (nameN i.val = [115, 108, 108, 105, 119] ∨ nameN i.val = [115, 114, 108, 105, 119] ∨ nameN i.val = [115, 114, 97, 105, 119] → shiftN i.val = 5) ∧
    (¬ (nameN i.val = [115, 108, 108, 105] ∨ nameN i.val = [115, 114, 108, 105] ∨ nameN i.val = [115, 114, 97, 105]) → ¬ (nameN i.val = [115, 108, 108, 105, 119] ∨ nameN i.val = [115, 114, 108, 105, 119] ∨ nameN i.val = [115, 114, 97, 105, 119]) → shiftN i.val = 0) := by decide
end Go.Lev.Seat

namespace Go.Lev.Seat
open Go Go.Lev
set_option linter.unusedSimpArgs false
set_option linter.unusedVariables false
theorem first_names : ∀ i : Fin 76, fiN i.val = (decide (nameN i.val = [106, 97, 108, 114]) || (decide (3 ≤ sortN i.val) && decide (sortN i.val ≤ 7)) || decide (10 ≤ sortN i.val)) := by decide
end Go.Lev.Seat

namespace Go.Lev.Seat
open Go Go.Lev
set_option linter.unusedSimpArgs false
set_option linter.unusedVariables false
theorem form_names : ∀ i : Fin 76, formN i.val = (if 0 < shiftN i.val then 0 else if sortN i.val = 1 then 4 else if sortN i.val = 2 then (if i.val = 3 then 5 else 1) else if sortN i.val = 3 then 3 else if sortN i.val = 4 then 1 else if sortN i.val = 6 then 1 else if sortN i.val = 5 then 2 else 0) := by decide
end Go.Lev.Seat

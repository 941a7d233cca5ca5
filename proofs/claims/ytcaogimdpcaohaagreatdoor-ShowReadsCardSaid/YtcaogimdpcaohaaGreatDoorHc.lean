/- Names of operations. -/
import Derived.Test.YtcaogimdpcaohaaGreatDoorHb
set_option linter.unusedVariables false
set_option linter.unusedSimpArgs false
set_option linter.constructorNameAsVariable false

namespace Go.Lev.Seat
open Go Go.Lev
set_option linter.unusedSimpArgs false
set_option linter.unusedVariables false
theorem name_len : nameL.length = 76 := by decide
theorem name_run (fl op : Nat) (H : Heap) (h : op < 76) (h1 : 1 ≤ op) : T 300 7 n_ops_Name fl [.int .i64 (op : Nat)] H = some (strV (nameN op), H) := by
  refine T_scalar (F := L_ops_Name) rfl rfl rfl (by simp [L_ops_Name]) rfl ?_
  have hs := fun fl H => sort_in fl op H h
  have hn : ∀ fl H, T 300 6 n_ops_names fl [] H = some (.agg (nameL.map strV).toArray, H) := fun fl H => tab_lift (d := 5) (fun _ _ => rfl) rfl (by kernel_rfl)
  have hz : ¬ sortN op = 0 := by
    have : ∀ i : Fin 76, 1 ≤ i.val → sortN i.val ≠ 0 := by decide
    exact this ⟨op, h⟩ h1
  have hg : nameL[op]? = some (nameN op) := by
    have hl : op < nameL.length := by rw [name_len]; exact h
    rw [List.getElem?_eq_getElem hl]
    simp [nameN, List.getD, hl]
  have hc : (op : Int) < 76 := by omega
  simp [L_ops_Name, hs, hn, hz, ix1V, hg, hc]
theorem rname_run (fl op : Nat) (H : Heap) (h : op < 76) (h1 : 1 ≤ op) : T 300 7 n_ref05_Name fl [.int .i64 (op : Nat)] H = some (strV (nameN op), H) := by
  refine T_scalar (F := L_ref05_Name) rfl rfl rfl (by simp [L_ref05_Name]) rfl ?_
  have hn : T 300 6 n_ref05_Names 0 [] [] = some (.slice (some ⟨0, 0, some 0⟩) 75 1, [{ cells := (nameL.drop 1).map strV, gen := 0, row := 1 }]) := by kernel_rfl
  have hg : nameL[op]? = some (nameN op) := by
    have hl : op < nameL.length := by rw [name_len]; exact h
    rw [List.getElem?_eq_getElem hl]
    simp [nameN, List.getD, hl]
  have c1 : ¬ (op : Int) < 1 := by omega
  have c2 : ¬ (75 : Int) < op := by omega
  have e : IntKind.i64.wrap ((op : Int) - 1) = ((op - 1 : Nat) : Int) := by simp only [IntKind.wrap_i64]; omega
  have c3 : ((op - 1 : Nat) : Int) < 75 := by omega
  have c4 : (0 : Int) ≤ ((op - 1 : Nat) : Int) := by omega
  have e2 : op - 1 + 1 = op := by omega
  simp [L_ref05_Name, hn, c1, c2, e, iadSV, c3, rd1, e2, hg]
end Go.Lev.Seat

namespace Go.Lev.Seat
open Go Go.Lev
set_option linter.unusedSimpArgs false
set_option linter.unusedVariables false
theorem shift_names : ∀ i : Fin 76, (nameN i.val = [115, 108, 108, 105] ∨ nameN i.val = [115, 114, 108, 105] ∨ nameN i.val = [115, 114, 97, 105] → shiftN i.val = 6) ∧
    (nameN i.val = [115, 108, 108, 105, 119] ∨ nameN i.val = [115, 114, 108, 105, 119] ∨ nameN i.val = [115, 114, 97, 105, 119] → shiftN i.val = 5) ∧
    (¬ (nameN i.val = [115, 108, 108, 105] ∨ nameN i.val = [115, 114, 108, 105] ∨ nameN i.val = [115, 114, 97, 105]) → ¬ (nameN i.val = [115, 108, 108, 105, 119] ∨ nameN i.val = [115, 114, 108, 105, 119] ∨ nameN i.val = [115, 114, 97, 105, 119]) → shiftN i.val = 0) := by decide
theorem rshift_run (fl op : Nat) (H : Heap) (h : op < 76) (h1 : 1 ≤ op) : T 300 8 n_ref06_Shift fl [.int .i64 (op : Nat)] H = some (.int .i64 (shiftN op : Nat), H) := by
  refine T_scalar (F := L_ref06_Shift) rfl rfl rfl (by simp [L_ref06_Shift]) rfl ?_
  have hn := fun fl H => rname_run fl op H h h1
  obtain ⟨t1, t2, t3⟩ := shift_names ⟨op, h⟩
  simp only at t1 t2 t3
  by_cases a : nameN op = [115, 108, 108, 105]
  · have e := t1 (.inl a); simp [L_ref06_Shift, hn, a, e]
  by_cases b : nameN op = [115, 114, 108, 105]
  · have e := t1 (.inr (.inl b)); simp [L_ref06_Shift, hn, a, b, e]
  by_cases c : nameN op = [115, 114, 97, 105]
  · have e := t1 (.inr (.inr c)); simp [L_ref06_Shift, hn, a, b, c, e]
  by_cases a' : nameN op = [115, 108, 108, 105, 119]
  · have e := t2 (.inl a'); simp [L_ref06_Shift, hn, a, b, c, a', e]
  by_cases b' : nameN op = [115, 114, 108, 105, 119]
  · have e := t2 (.inr (.inl b')); simp [L_ref06_Shift, hn, a, b, c, a', b', e]
  by_cases c' : nameN op = [115, 114, 97, 105, 119]
  · have e := t2 (.inr (.inr c')); simp [L_ref06_Shift, hn, a, b, c, a', b', c', e]
  · have e := t3 (by simp [a, b, c]) (by simp [a', b', c']); simp [L_ref06_Shift, hn, a, b, c, a', b', c', e]
end Go.Lev.Seat

namespace Go.Lev.Seat
open Go Go.Lev
set_option linter.unusedSimpArgs false
set_option linter.unusedVariables false
theorem first_names : ∀ i : Fin 76, fiN i.val = (decide (nameN i.val = [106, 97, 108, 114]) || (decide (3 ≤ sortN i.val) && decide (sortN i.val ≤ 7)) || decide (10 ≤ sortN i.val)) := by decide
theorem rfirst_run (fl op : Nat) (H : Heap) (h : op < 76) (h1 : 1 ≤ op) : T 300 8 n_ref05_First fl [.int .i64 (op : Nat)] H = some (.bool (fiN op), H) := by
  refine T_scalar (F := L_ref05_First) rfl rfl rfl (by simp [L_ref05_First]) rfl ?_
  have hn := fun fl H => rname_run fl op H h h1
  have hs : ∀ fl H, T 300 7 n_ref05_Sort fl [.int .i64 (op : Nat)] H = some (.int .i64 (sortN op : Nat), H) := fun fl H => by
    have : (List.range 76).map (fun op => T 300 7 n_ref05_Sort 0 [.int .i64 (op : Nat)] []) = (List.range 76).map (fun op => some (.int .i64 (sortN op : Nat), [])) := by kernel_rfl
    exact tab_lift (d := 6) (fun _ _ => rfl) rfl (tab_at this h)
  have hf := first_names ⟨op, h⟩
  simp only at hf
  by_cases a : nameN op = [106, 97, 108, 114]
  · simp [L_ref05_First, hn, hs, hf, a]
  by_cases b : 3 ≤ sortN op
  · have b' : (3 : Int) ≤ (sortN op : Int) := by omega
    by_cases c : sortN op ≤ 7
    · have c' : (sortN op : Int) ≤ 7 := by omega
      simp [L_ref05_First, hn, hs, hf, a, b, b', c, c']
    · have c' : ¬ (sortN op : Int) ≤ 7 := by omega
      by_cases e : 10 ≤ sortN op
      · have e' : (10 : Int) ≤ (sortN op : Int) := by omega
        simp [L_ref05_First, hn, hs, hf, a, b, b', c, c', e, e']
      · have e' : ¬ (10 : Int) ≤ (sortN op : Int) := by omega
        simp [L_ref05_First, hn, hs, hf, a, b, b', c, c', e, e']
  · have b' : ¬ (3 : Int) ≤ (sortN op : Int) := by omega
    have e : ¬ 10 ≤ sortN op := by omega
    have e' : ¬ (10 : Int) ≤ (sortN op : Int) := by omega
    simp [L_ref05_First, hn, hs, hf, a, b, b', e, e']
end Go.Lev.Seat

namespace Go.Lev.Seat
open Go Go.Lev
set_option linter.unusedSimpArgs false
set_option linter.unusedVariables false
theorem form_names : ∀ i : Fin 76, formN i.val = (if 0 < shiftN i.val then 0 else if sortN i.val = 1 then 4 else if sortN i.val = 2 then (if i.val = 3 then 5 else 1) else if sortN i.val = 3 then 3 else if sortN i.val = 4 then 1 else if sortN i.val = 6 then 1 else if sortN i.val = 5 then 2 else 0) := by decide
theorem rsort7 (fl op : Nat) (H : Heap) (h : op < 76) : T 300 8 n_ref05_Sort fl [.int .i64 (op : Nat)] H = some (.int .i64 (sortN op : Nat), H) := by
  have : (List.range 76).map (fun op => T 300 8 n_ref05_Sort 0 [.int .i64 (op : Nat)] []) = (List.range 76).map (fun op => some (.int .i64 (sortN op : Nat), [])) := by kernel_rfl
  exact tab_lift (d := 7) (fun _ _ => rfl) rfl (tab_at this h)
theorem rform_run (fl op : Nat) (H : Heap) (h : op < 76) (h1 : 1 ≤ op) : T 300 9 n_ref06_Format fl [.int .i64 (op : Nat)] H = some (.int .i64 (formN op : Nat), H) := by
  refine T_scalar (F := L_ref06_Format) rfl rfl rfl (by simp [L_ref06_Format]) rfl ?_
  have hn := fun fl H => rshift_run fl op H h h1
  have hs := fun fl H => rsort7 fl op H h
  have hf := form_names ⟨op, h⟩
  simp only at hf
  by_cases z : 0 < shiftN op
  · simp [L_ref06_Format, hn, hs, hf, z]
  by_cases a1 : sortN op = 1
  · simp [L_ref06_Format, hn, hs, hf, z, a1]
  by_cases a2 : sortN op = 2
  · by_cases b : op = 3
    · subst b
      have hn' : ∀ fl H, T 300 8 n_ref06_Shift fl [.int .i64 3] H = some (.int .i64 0, H) := hn
      have hs' : ∀ fl H, T 300 8 n_ref05_Sort fl [.int .i64 3] H = some (.int .i64 2, H) := hs
      have hf' : formN 3 = 5 := by decide
      simp [L_ref06_Format, hn', hs', hf']
    · have b' : ¬ (op : Int) = 3 := by omega
      simp [L_ref06_Format, hn, hs, hf, z, a2, b, b']
  have n1 : ¬ (sortN op : Int) = 1 := by omega
  have n2 : ¬ (sortN op : Int) = 2 := by omega
  by_cases a3 : sortN op = 3
  · simp [L_ref06_Format, hn, hs, hf, z, a1, a2, a3]
  have n3 : ¬ (sortN op : Int) = 3 := by omega
  by_cases a4 : sortN op = 4
  · simp [L_ref06_Format, hn, hs, hf, z, a1, a2, a3, a4]
  have n4 : ¬ (sortN op : Int) = 4 := by omega
  by_cases a6 : sortN op = 6
  · simp [L_ref06_Format, hn, hs, hf, z, a1, a2, a3, a4, a6]
  have n6 : ¬ (sortN op : Int) = 6 := by omega
  by_cases a5 : sortN op = 5
  · simp [L_ref06_Format, hn, hs, hf, z, a1, a2, a3, a4, a6, a5]
  have n5 : ¬ (sortN op : Int) = 5 := by omega
  simp [L_ref06_Format, hn, hs, hf, z, a1, a2, a3, a4, a6, a5, n1, n2, n3, n4, n5, n6]
end Go.Lev.Seat

/- What each of the 76 numbers of operations is told to be: by the program and by the document. -/
import Derived.Test.YtcaogimdpcaohaaGreatDoorGa
set_option linter.unusedVariables false
set_option linter.unusedSimpArgs false
set_option linter.constructorNameAsVariable false

namespace Go.Lev.Seat
open Go Go.Lev
set_option linter.unusedVariables false

def sortL : List Nat := [0, 1, 1, 2, 2, 3, 3, 3, 3, 3, 3, 4, 4, 4, 4, 4, 4, 4, 5, 5, 5, 5, 6, 6, 6, 6, 6, 6, 6, 6, 6, 6, 6, 6, 6, 7, 7, 7, 7, 7, 7, 7, 7, 7, 7, 7, 7, 7, 7, 7, 8, 8, 9, 9, 10, 10, 11, 11, 12, 12, 12, 12, 12, 12, 12, 12, 12, 12, 12, 12, 12, 12, 12, 12, 12, 12]
def shiftL : List Nat := [0, 0, 0, 0, 0, 0, 0, 0, 0, 0, 0, 0, 0, 0, 0, 0, 0, 0, 0, 0, 0, 0, 0, 0, 0, 0, 0, 0, 6, 6, 6, 0, 5, 5, 5, 0, 0, 0, 0, 0, 0, 0, 0, 0, 0, 0, 0, 0, 0, 0, 0, 0, 0, 0, 0, 0, 0, 0, 0, 0, 0, 0, 0, 0, 0, 0, 0, 0, 0, 0, 0, 0, 0, 0, 0, 0]
def formL : List Nat := [0, 4, 4, 5, 1, 3, 3, 3, 3, 3, 3, 1, 1, 1, 1, 1, 1, 1, 2, 2, 2, 2, 1, 1, 1, 1, 1, 1, 0, 0, 0, 1, 0, 0, 0, 0, 0, 0, 0, 0, 0, 0, 0, 0, 0, 0, 0, 0, 0, 0, 0, 0, 0, 0, 0, 0, 0, 0, 0, 0, 0, 0, 0, 0, 0, 0, 0, 0, 0, 0, 0, 0, 0, 0, 0, 0]
def wrL : List Bool := [false, true, true, true, true, false, false, false, false, false, false, true, true, true, true, true, true, true, false, false, false, false, true, true, true, true, true, true, true, true, true, true, true, true, true, true, true, true, true, true, true, true, true, true, true, true, true, true, true, true, false, false, false, false, true, true, true, true, true, true, true, true, true, true, true, true, true, true, true, true, true, true, true, true, true, true]
def fiL : List Bool := [false, false, false, false, true, true, true, true, true, true, true, true, true, true, true, true, true, true, true, true, true, true, true, true, true, true, true, true, true, true, true, true, true, true, true, true, true, true, true, true, true, true, true, true, true, true, true, true, true, true, false, false, false, false, true, true, true, true, true, true, true, true, true, true, true, true, true, true, true, true, true, true, true, true, true, true]
def seL : List Bool := [false, false, false, false, false, true, true, true, true, true, true, false, false, false, false, false, false, false, true, true, true, true, false, false, false, false, false, false, false, false, false, false, false, false, false, true, true, true, true, true, true, true, true, true, true, true, true, true, true, true, false, false, false, false, false, false, true, true, true, true, true, true, true, true, true, true, true, true, true, true, true, true, true, true, true, true]
def nameL : List (List UInt8) := [[], [108, 117, 105], [97, 117, 105, 112, 99], [106, 97, 108], [106, 97, 108, 114], [98, 101, 113], [98, 110, 101], [98, 108, 116], [98, 103, 101], [98, 108, 116, 117], [98, 103, 101, 117], [108, 98], [108, 104], [108, 119], [108, 100], [108, 98, 117], [108, 104, 117], [108, 119, 117], [115, 98], [115, 104], [115, 119], [115, 100], [97, 100, 100, 105], [115, 108, 116, 105], [115, 108, 116, 105, 117], [120, 111, 114, 105], [111, 114, 105], [97, 110, 100, 105], [115, 108, 108, 105], [115, 114, 108, 105], [115, 114, 97, 105], [97, 100, 100, 105, 119], [115, 108, 108, 105, 119], [115, 114, 108, 105, 119], [115, 114, 97, 105, 119], [97, 100, 100], [115, 117, 98], [115, 108, 108], [115, 108, 116], [115, 108, 116, 117], [120, 111, 114], [115, 114, 108], [115, 114, 97], [111, 114], [97, 110, 100], [97, 100, 100, 119], [115, 117, 98, 119], [115, 108, 108, 119], [115, 114, 108, 119], [115, 114, 97, 119], [102, 101, 110, 99, 101], [102, 101, 110, 99, 101, 46, 116, 115, 111], [101, 99, 97, 108, 108], [101, 98, 114, 101, 97, 107], [108, 114, 46, 119], [108, 114, 46, 100], [115, 99, 46, 119], [115, 99, 46, 100], [97, 109, 111, 115, 119, 97, 112, 46, 119], [97, 109, 111, 97, 100, 100, 46, 119], [97, 109, 111, 120, 111, 114, 46, 119], [97, 109, 111, 97, 110, 100, 46, 119], [97, 109, 111, 111, 114, 46, 119], [97, 109, 111, 109, 105, 110, 46, 119], [97, 109, 111, 109, 97, 120, 46, 119], [97, 109, 111, 109, 105, 110, 117, 46, 119], [97, 109, 111, 109, 97, 120, 117, 46, 119], [97, 109, 111, 115, 119, 97, 112, 46, 100], [97, 109, 111, 97, 100, 100, 46, 100], [97, 109, 111, 120, 111, 114, 46, 100], [97, 109, 111, 97, 110, 100, 46, 100], [97, 109, 111, 111, 114, 46, 100], [97, 109, 111, 109, 105, 110, 46, 100], [97, 109, 111, 109, 97, 120, 46, 100], [97, 109, 111, 109, 105, 110, 117, 46, 100], [97, 109, 111, 109, 97, 120, 117, 46, 100]]
def sortN (op : Nat) : Nat := sortL.getD op 0
def shiftN (op : Nat) : Nat := shiftL.getD op 0
def formN (op : Nat) : Nat := formL.getD op 0
def wrN' (op : Nat) : Bool := wrL.getD op false
def fiN (op : Nat) : Bool := fiL.getD op false
def seN (op : Nat) : Bool := seL.getD op false
def nameN (op : Nat) : List UInt8 := nameL.getD op []
theorem tab_at {α : Type} {f g : Nat → α} {n : Nat} (h : (List.range n).map f = (List.range n).map g) {i : Nat} (hi : i < n) : f i = g i := by
  have := congrArg (·[i]?) h
  simpa [hi] using this

theorem sort_tab : (List.range 76).map (fun op => T 300 6 n_ops_Sort 0 [.int .i64 (op : Nat)] []) = (List.range 76).map (fun op => some (.int .i64 (sortN op : Nat), [])) := by kernel_rfl
theorem sort_in (fl op : Nat) (H : Heap) (h : op < 76) : T 300 6 n_ops_Sort fl [.int .i64 (op : Nat)] H = some (.int .i64 (sortN op : Nat), H) := tab_lift (fun _ _ => rfl) rfl (tab_at sort_tab h)
theorem rsort_tab : (List.range 76).map (fun op => T 300 6 n_ref05_Sort 0 [.int .i64 (op : Nat)] []) = (List.range 76).map (fun op => some (.int .i64 (sortN op : Nat), [])) := by kernel_rfl
theorem rsort_in (fl op : Nat) (H : Heap) (h : op < 76) : T 300 6 n_ref05_Sort fl [.int .i64 (op : Nat)] H = some (.int .i64 (sortN op : Nat), H) := tab_lift (fun _ _ => rfl) rfl (tab_at rsort_tab h)
theorem shift_tab : (List.range 76).map (fun op => T 300 6 n_encode_shift 0 [.int .i64 (op : Nat)] []) = (List.range 76).map (fun op => some (.int .i64 (shiftN op : Nat), [])) := by kernel_rfl
theorem shift_in (fl op : Nat) (H : Heap) (h : op < 76) : T 300 6 n_encode_shift fl [.int .i64 (op : Nat)] H = some (.int .i64 (shiftN op : Nat), H) := tab_lift (fun _ _ => rfl) rfl (tab_at shift_tab h)
theorem form_tab : (List.range 76).map (fun op => T 300 6 n_encode_format 0 [.int .i64 (op : Nat)] []) = (List.range 76).map (fun op => some (.int .i64 (formN op : Nat), [])) := by kernel_rfl
theorem form_in (fl op : Nat) (H : Heap) (h : op < 76) : T 300 6 n_encode_format fl [.int .i64 (op : Nat)] H = some (.int .i64 (formN op : Nat), H) := tab_lift (fun _ _ => rfl) rfl (tab_at form_tab h)
theorem rwr_tab : (List.range 76).map (fun op => T 300 6 n_ref05_Writes 0 [.int .i64 (op : Nat)] []) = (List.range 76).map (fun op => some (.bool (wrN' op), [])) := by kernel_rfl
theorem rwr_in (fl op : Nat) (H : Heap) (h : op < 76) : T 300 6 n_ref05_Writes fl [.int .i64 (op : Nat)] H = some (.bool (wrN' op), H) := tab_lift (fun _ _ => rfl) rfl (tab_at rwr_tab h)
theorem rse_tab : (List.range 76).map (fun op => T 300 6 n_ref05_Second 0 [.int .i64 (op : Nat)] []) = (List.range 76).map (fun op => some (.bool (seN op), [])) := by kernel_rfl
theorem rse_in (fl op : Nat) (H : Heap) (h : op < 76) : T 300 6 n_ref05_Second fl [.int .i64 (op : Nat)] H = some (.bool (seN op), H) := tab_lift (fun _ _ => rfl) rfl (tab_at rse_tab h)
theorem names_run (fl : Nat) (H : Heap) : T 300 3 n_ops_names fl [] H = some (.agg (nameL.map strV).toArray, H) := tab_lift (fun _ _ => rfl) rfl (by kernel_rfl)
theorem rnames_run : T 300 3 n_ref05_Names 0 [] [] = some (.slice (some ⟨0, 0, some 0⟩) 75 1, [{ cells := (nameL.drop 1).map strV, gen := 0, row := 1 }]) := by kernel_rfl
end Go.Lev.Seat

/- field.Put: whether an immediate may be. -/
import Derived.Test.YtcaogimdpcaohaaGreatDoorGa
import Derived.Test.YtcaogimdpcaohaaGreatDoorHb
import Derived.Test.YtcaogimdpcaohaaGreatDoorHc
set_option linter.unusedVariables false
set_option linter.unusedSimpArgs false
set_option linter.constructorNameAsVariable false

namespace Go.Lev.Seat
open Go Go.Lev
set_option linter.unusedSimpArgs false
set_option linter.unusedVariables false
theorem put_run (f : Nat) (hf : 1 ≤ f ∧ f ≤ 5) (imm : Int) (h0 : -9223372036854775808 ≤ imm) (h1 : imm ≤ 9223372036854775807) : ∃ v, (∃ w, v = .tuple #[.int .u32 w, .bool (mayB f imm)]) ∧ Run 6 n_field_Put [.int .i64 (f : Nat), .int .i64 imm] v := by
  refine Run.part (F := L_field_Put) (fun _ _ => rfl) rfl rfl (by simp [L_field_Put]) ?_
  have ho : T K 5 n_field_of 0 [.int .i64 (f : Nat)] [] = _ := tab_mono (show 300 ≤ K by decide) (Nat.le_refl 5) _ _ _ _ _ (of_run f hf)
  have hs := fun fl H => (Run.old3 (fun fl H => sext_run 3 fl (IntKind.u64.wrap imm) (bitsL.getD f 0) H)) 5 fl H (Nat.le_refl _)
  have hz := fun x n fl H => (Run.old3 (fun fl H => zext_run 4 fl x n H)) 5 fl H (Nat.le_refl _)
  have ht := put_test f imm hf h0 h1
  show wp P0 (T K 5) 0 K _ _ _
  refine lwp_midH [] (fun env => evO env (.tmp 0) = .int .i64 f ∧ evO env (.tmp 1) = .int .i64 imm) (by simp) fun env ⟨a0, a1⟩ => ?_
  refine lwp_midH (({ cells := layF f } :: layRows) ++ [{ cells := layF f }]) (fun env => evO env (.tmp 1) = .int .i64 imm ∧ evO env (.tmp 6) = .pointer (some ⟨7, 0, some 0⟩) ∧ evO env (.tmp 7) = .bool true) ?_ ?_
  · simp [ho, a0, a1, storeV, wrN, layF, layRows, Value.cells, setSeg, Value.oneCell']
  have l0 : rd1 (({ cells := layF f } :: layRows) ++ [{ cells := layF f }]) ⟨7, 0, some 0⟩ = some (.int .i64 (bitsL.getD f 0)) := rfl
  have l1 : rd1 (({ cells := layF f } :: layRows) ++ [{ cells := layF f }]) ⟨7, 1, some 0⟩ = some (.int .i64 (lowL.getD f 0)) := rfl
  have l2 : rd1 (({ cells := layF f } :: layRows) ++ [{ cells := layF f }]) ⟨7, 2, some 0⟩ = some (.slice (some ⟨f + 1, 0, some 0⟩) (nF f) 3) := rfl
  have hrow := fun i hi X => row_run f i hf hi { cells := layF f } ([{ cells := layF f }] ++ X)
  simp only [← List.append_assoc] at hrow
  generalize (({ cells := layF f } :: layRows) ++ [{ cells := layF f }] : Heap) = HB at l0 l1 l2 hrow
  generalize bitsL.getD f 0 = bb at l0 hs ht
  generalize lowL.getD f 0 = ll at l1 ht
  clear a0 a1 ho
  rintro env ⟨a1, a6, a7⟩
  refine lwp_midH HB (fun env => evO env (.tmp 1) = .int .i64 imm ∧ evO env (.tmp 6) = .pointer (some ⟨7, 0, some 0⟩) ∧ mayB f imm = true) ?_ ?_
  · by_cases a : sextV (IntKind.u64.wrap imm) bb = IntKind.u64.wrap imm
    · by_cases b : zextV (IntKind.u64.wrap imm) ll = 0
      · have hm := ht.1 ⟨a, b⟩
        simp [L_field_Put, a1, a6, a7, l0, l1, hs, hz, a, b, hm]
      · have hm : mayB f imm = false := by
          cases h : mayB f imm with
          | true => exact absurd (ht.2 h).2 b
          | false => rfl
        simp [L_field_Put, a1, a6, a7, l0, l1, hs, hz, a, b, hm, isScT, isSc, isSc0]
    · have hm : mayB f imm = false := by
        cases h : mayB f imm with
        | true => exact absurd (ht.2 h).1 a
        | false => rfl
      simp [L_field_Put, a1, a6, a7, l0, l1, hs, hz, a, hm, isScT, isSc, isSc0]
  clear a1 a6 a7
  rintro env ⟨a1, a6, hm⟩
  refine lwp_midH HB (fun env => evO env (.tmp 1) = .int .i64 imm ∧ evO env (.tmp 6) = .pointer (some ⟨7, 0, some 0⟩) ∧ evO env (.tmp 8) = .int .u32 0) (by simp [a1, a6]) ?_
  clear a1 a6
  rintro env ⟨a1, a6, a8⟩
  refine lwp_midE (fun env _ => ∃ w, evO env (.tmp 8) = .int .u32 w) ?_ ?_
  · refine lwp_midH HB (fun env => evO env (.tmp 1) = .int .i64 imm ∧ evO env (.tmp 8) = .int .u32 0 ∧ evO env (.tmp 37) = .slice (some ⟨f + 1, 0, some 0⟩) (nF f) 3 ∧ evO env (.tmp 38) = .int .i64 (nF f : Nat) ∧ evO env (.tmp 39) = .int .i64 0) (by simp [a1, a6, a8, l2]) ?_
    clear a1 a6 a8
    rintro env ⟨a1, a8, a37, a38, a39⟩
    have hn4 : nF f ≤ 4 := by
      have hc : f = 1 ∨ f = 2 ∨ f = 3 ∨ f = 4 ∨ f = 5 := by omega
      rcases hc with rfl | rfl | rfl | rfl | rfl <;> decide
    refine lwp_block_of (lwp_loopE (fun m env H => ∃ (i : Nat) (X : Heap) (w : Int), i + m = nF f ∧ H = HB ++ X ∧ evO env (.tmp 1) = .int .i64 imm ∧ evO env (.tmp 8) = .int .u32 w ∧ evO env (.tmp 37) = .slice (some ⟨f + 1, 0, some 0⟩) (nF f) 3 ∧ evO env (.tmp 38) = .int .i64 (nF f : Nat) ∧ evO env (.tmp 39) = .int .i64 i)
      (nF f) ?_ ⟨0, [], 0, by omega, by simp, a1, a8, a37, a38, a39⟩ (by have : K = 100000 := rfl; omega))
    clear a1 a8 a37 a38 a39
    rintro m env _ ⟨i, X, w, hi, rfl, a1, a8, a37, a38, a39⟩ hm
    by_cases hin : i < nF f
    · obtain ⟨x, y, z, hr, hy, hz0⟩ := hrow i hin X
      have e1 : (i : Int) < (nF f : Int) := by omega
      have e2 : ¬ z < 0 := by omega
      have e3 : ¬ y < 0 := by omega
      have e4 : IntKind.i64.wrap ((i : Int) + 1) = ((i + 1 : Nat) : Int) := by simp only [IntKind.wrap_i64]; omega
      have b1 := fun a => bv_shr .u64 .i64 a z hz0
      have b2 := fun a => bv_shl .u32 .i64 a y hy
      obtain ⟨HX, hX⟩ : ∃ HX, HX = HB ++ X := ⟨_, rfl⟩
      rw [← hX] at hr ⊢
      simp [a1, a8, a37, a38, a39, e1, iadSV, hr, wrN_app0, b1, b2, hz, e4]
      exact ⟨m - 1, by omega, i + 1, by omega, ⟨X ++ [_], by rw [hX, List.append_assoc]⟩, by simp⟩
    · have e1 : ¬ (i : Int) < (nF f : Int) := by omega
      simp [a1, a8, a37, a38, a39, e1]
  clear a1 a6 a8
  rintro env H ⟨w, a8⟩
  simp [L_field_Put, a8, hm, isScT, isSc, isSc0]
end Go.Lev.Seat


namespace Go.Lev.Seat
open Go Go.Lev
set_option linter.unusedSimpArgs false
set_option linter.unusedVariables false
theorem sort_out (op : Int) (h : op < 1 ∨ 75 < op) : Run 1 n_ops_Sort [.int .i64 op] (.int .i64 0) := by
  refine Run.text (F := L_ops_Sort) (fun _ _ => rfl) rfl rfl (by simp [L_ops_Sort]) rfl fun d hd => ?_
  by_cases a : op < 1
  · simp [L_ops_Sort, a]
  · have b : 75 < op := by omega
    simp [L_ops_Sort, a, b]
theorem shift_out (op : Int) (h : op < 1 ∨ 75 < op) : Run 1 n_encode_shift [.int .i64 op] (.int .i64 0) := by
  refine Run.text (F := L_encode_shift) (fun _ _ => rfl) rfl rfl (by simp [L_encode_shift]) rfl fun d hd => ?_
  have a1 : ¬ op = 28 := by omega
  have a2 : ¬ op = 29 := by omega
  have a3 : ¬ op = 30 := by omega
  have a4 : ¬ op = 32 := by omega
  have a5 : ¬ op = 33 := by omega
  have a6 : ¬ op = 34 := by omega
  simp [L_encode_shift, a1, a2, a3, a4, a5, a6]
theorem form_out (op : Int) (h : op < 1 ∨ 75 < op) : Run 2 n_encode_format [.int .i64 op] (.int .i64 0) := by
  refine Run.text (F := L_encode_format) (fun _ _ => rfl) rfl rfl (by simp [L_encode_format]) rfl fun d hd => ?_
  have hs := (sort_out op h).any hd
  simp [L_encode_format, hs]
def manyL : List Int := [2, 2, 6, 7, 4, 13, 15, 2, 2, 2, 2, 18]
def preL : List Int := [0, 2, 4, 10, 17, 21, 34, 49, 51, 53, 55, 57, 75]
theorem pre_next : ∀ i : Fin 12, preL.getD (i.val + 1) 0 = preL.getD i.val 0 + manyL.getD i.val 0 ∧ preL.getD (i.val + 1) 0 ≤ 75 ∧ 0 ≤ preL.getD i.val 0 ∧ 0 < manyL.getD i.val 0 := by decide
theorem rsort_out (op : Int) (h : op < 1 ∨ 75 < op) (h1 : op ≤ 9223372036854775807) : Run 1 n_ref05_Sort [.int .i64 op] (.int .i64 0) := by
  refine Run.text (F := L_ref05_Sort) (fun _ _ => rfl) rfl rfl (by simp [L_ref05_Sort]) rfl fun d hd => ?_
  by_cases a : op < 1
  · simp [L_ref05_Sort, a, zeroRow, fillL]
  · have b : 75 < op := by omega
    show wp P0 (T K d) 0 K _ _ _
    refine lwp_midH [] (fun env => evO env (.tmp 0) = .int .i64 op) (by simp) fun env a0 => ?_
    refine lwp_midH [{ cells := manyL.map (.int .i64 ·), row := 1 }] (fun env => evO env (.tmp 0) = .int .i64 op ∧ evO env (.tmp 3) = .slice (some ⟨0, 0, some 0⟩) 12 1) (by simp [zeroRow, fillL, List.replicate, manyL, a0]) ?_
    clear a0
    rintro env ⟨a0, a3⟩
    refine lwp_midH [{ cells := manyL.map (.int .i64 ·), row := 1 }] (fun env => evO env (.tmp 0) = .int .i64 op ∧ evO env (.tmp 3) = .slice (some ⟨0, 0, some 0⟩) 12 1) (by simp [a0, a3, a]) ?_
    clear a0 a3
    rintro env ⟨a0, a3⟩
    refine lwp_midE (fun env _ => True) ?_ ?_
    · refine lwp_midH [{ cells := manyL.map (.int .i64 ·), row := 1 }] (fun env => evO env (.tmp 0) = .int .i64 op ∧ evO env (.tmp 3) = .slice (some ⟨0, 0, some 0⟩) 12 1 ∧ evO env (.tmp 4) = .int .i64 0) (by simp [a0, a3]) ?_
      clear a0 a3
      rintro env ⟨a0, a3, a4⟩
      refine lwp_block_of (lwp_loopE (fun m env H => ∃ i : Nat, i + m = 12 ∧ H = [{ cells := manyL.map (.int .i64 ·), row := 1 }] ∧ evO env (.tmp 0) = .int .i64 (op - preL.getD i 0) ∧ evO env (.tmp 3) = .slice (some ⟨0, 0, some 0⟩) 12 1 ∧ evO env (.tmp 4) = .int .i64 i)
        12 ?_ ⟨0, by omega, rfl, by simpa [preL] using a0, a3, a4⟩ (by decide))
      clear a0 a3 a4
      rintro m env _ ⟨i, hi, rfl, a0, a3, a4⟩ hm
      by_cases hin : i < 12
      · have e1 : (i : Int) < 12 := by omega
        obtain ⟨p1, p2, p3, p4⟩ := pre_next ⟨i, hin⟩
        simp only at p1 p2 p3 p4
        have hl : (manyL[i]?) = some (manyL.getD i 0) := by
          have : i < manyL.length := hin
          simp [List.getD, this]
        generalize preL.getD i 0 = c at a0 p1 p3
        generalize manyL.getD i 0 = q at hl p1 p4
        have e2 : ¬ op - c ≤ q := by omega
        have e3 : IntKind.i64.wrap (op - c - q) = op - preL.getD (i + 1) 0 := by rw [wrap_i64_id] <;> omega
        have e4 : IntKind.i64.wrap ((i : Int) + 1) = ((i + 1 : Nat) : Int) := by rw [wrap_i64_id] <;> omega
        simp [a0, a3, a4, e1, iadSV, hl, e2, e3, e4]
        exact ⟨m - 1, by omega, i + 1, by omega, by simp [List.getD], by simp⟩
      · have e1 : ¬ (i : Int) < 12 := by omega
        simp [a0, a3, a4, e1]
    · intro env H _
      simp [L_ref05_Sort]
theorem inst_sc (op rd r1 r2 imm : Int) (aq rl : Bool) (p s : Int) : isSc (instV op rd r1 r2 imm aq rl p s) = true := by simp [instV, isSc, isSc0]
def immB (op : Nat) (imm : Int) : Bool := if 0 < shiftN op then decide (0 ≤ imm) && decide (imm < 2 ^ shiftN op) else if 0 < formN op then mayB (formN op) imm else decide (imm = 0)
theorem imm_run (op : Nat) (h : op < 76) (rd r1 r2 imm p s : Int) (aq rl : Bool) (h0 : -9223372036854775808 ≤ imm) (h1 : imm ≤ 9223372036854775807) : ∃ v, (∃ w, v = .tuple #[.int .u32 w, .bool (immB op imm)]) ∧ Run 8 n_encode_immediate [instV (op : Nat) rd r1 r2 imm aq rl p s] v := by
  refine Run.part (F := L_encode_immediate) (fun _ _ => rfl) rfl (by simp [inst_sc]) (by simp [L_encode_immediate]) ?_
  have hs := (Run.old3 fun fl H => shift_in fl op H h).any (show 6 ≤ 7 by omega)
  have hf := (Run.old3 fun fl H => form_in fl op H h).any (show 6 ≤ 7 by omega)
  have hsh : ∀ i : Fin 76, shiftN i.val = 0 ∨ shiftN i.val = 5 ∨ shiftN i.val = 6 := by decide
  have hfo : ∀ i : Fin 76, formN i.val ≤ 5 := by decide
  rcases hsh ⟨op, h⟩ with e | e | e
  · simp only at e
    by_cases b : formN op = 0
    · simp [L_encode_immediate, instV, hs, hf, e, b, immB]
    · obtain ⟨v, ⟨w, rfl⟩, hp⟩ := put_run (formN op) ⟨by omega, hfo ⟨op, h⟩⟩ imm h0 h1
      have hp := hp.any (show 6 ≤ 7 by omega)
      have b1 : 0 < formN op := by omega
      simp [L_encode_immediate, instV, hs, hf, e, b, immB, hp, b1]
  · simp only at e
    simp [L_encode_immediate, instV, hs, hf, e, immB]
    repeat' (first | simp [*] | (refine selB_byD (fun h => ?_) (fun h => ?_)) | (refine selB_byN (fun h => ?_) (fun h => ?_)) | (refine selB_by (fun h => ?_) (fun h => ?_)) | (refine selG_byD (fun h => ?_) (fun h => ?_)) | (refine selG_byN (fun h => ?_) (fun h => ?_)) | (refine selG_by (fun h => ?_) (fun h => ?_)) | (refine pick_byD (fun h => ?_) (fun h => ?_)) | (refine pick_byN (fun h => ?_) (fun h => ?_)) | (refine pick_by (fun h => ?_) (fun h => ?_)))
  · simp only at e
    simp [L_encode_immediate, instV, hs, hf, e, immB]
    repeat' (first | simp [*] | (refine selB_byD (fun h => ?_) (fun h => ?_)) | (refine selB_byN (fun h => ?_) (fun h => ?_)) | (refine selB_by (fun h => ?_) (fun h => ?_)) | (refine selG_byD (fun h => ?_) (fun h => ?_)) | (refine selG_byN (fun h => ?_) (fun h => ?_)) | (refine selG_by (fun h => ?_) (fun h => ?_)) | (refine pick_byD (fun h => ?_) (fun h => ?_)) | (refine pick_byN (fun h => ?_) (fun h => ?_)) | (refine pick_by (fun h => ?_) (fun h => ?_)))
end Go.Lev.Seat


namespace Go.Lev.Seat
open Go Go.Lev
set_option linter.unusedSimpArgs false
set_option linter.unusedVariables false
def cleanB (o : Nat) (rd r1 r2 : Int) : Bool := ((if wrN' o then rd else 0) == rd) && ((if fiN o then r1 else 0) == r1) && ((if seN o then r2 else 0) == r2)
def regsB (rd r1 r2 : Int) : Bool := decide (0 ≤ rd) && decide (rd ≤ 31) && decide (0 ≤ r1) && decide (r1 ≤ 31) && decide (0 ≤ r2) && decide (r2 ≤ 31)
def setsB (o : Nat) (p s : Int) : Bool := if o = 50 then decide (0 ≤ p) && decide (p ≤ 15) && decide (0 ≤ s) && decide (s ≤ 15) else if o = 51 then decide (p = 3) && decide (s = 3) else decide (p = 0) && decide (s = 0)
def rightB (o : Nat) (rd r1 r2 imm : Int) (aq rl : Bool) (p s : Int) : Bool :=
  !decide (sortN o = 0) && immB o imm && cleanB o rd r1 r2 && !((aq || rl) && decide (sortN o < 10)) && (decide (o = 50) || decide (o = 51) || regsB rd r1 r2) && setsB o p s
theorem clean_eq (o : Nat) (rd r1 r2 imm p s : Int) (aq rl : Bool) : eqAV [(0, 0), (1, 0), (2, 0), (3, 0), (4, 0), (5, 1), (6, 1), (7, 0), (8, 0)] true (instV (o : Nat) (if wrN' o then rd else 0) (if fiN o then r1 else 0) (if seN o then r2 else 0) imm aq rl p s) (instV (o : Nat) rd r1 r2 imm aq rl p s) = some (.bool (!cleanB o rd r1 r2)) := by
  simp [eqAV, eqAll, cmpAt, cellEq, instV, cleanB, Bool.and_assoc]
theorem right_run (o : Nat) (h : o < 76) (rd r1 r2 imm p s : Int) (aq rl : Bool) (h0 : -9223372036854775808 ≤ imm) (h1 : imm ≤ 9223372036854775807) : Run 9 n_encode_Right [instV (o : Nat) rd r1 r2 imm aq rl p s] (.bool (rightB o rd r1 r2 imm aq rl p s)) := by
  refine Run.text (F := L_encode_Right) (fun _ _ => rfl) rfl (by simp [inst_sc]) (by simp [L_encode_Right]) rfl fun d hd => ?_
  have hs := (Run.old3 fun fl H => sort_in fl o H h).any (show 6 ≤ d by omega)
  have hc := (Run.old3 fun fl H => clean_in fl o H h rd r1 r2 imm p s aq rl).any (show 6 ≤ d by omega)
  obtain ⟨v, ⟨w, rfl⟩, hi⟩ := imm_run o h rd r1 r2 imm p s aq rl h0 h1
  have hi := hi.any hd
  have he := clean_eq o rd r1 r2 imm p s aq rl
  have hl : ∀ X : Heap, rdN ({ cells := (instV (o : Nat) rd r1 r2 imm aq rl p s).cells.toList } :: X) ⟨0, 0, some 0⟩ 9 = some (instV (o : Nat) rd r1 r2 imm aq rl p s).cells.toList := fun X => rfl
  have hc0 : (instV (o : Nat) rd r1 r2 imm aq rl p s).cells.toList = [.int .i64 o, .int .i64 rd, .int .i64 r1, .int .i64 r2, .int .i64 imm, .bool aq, .bool rl, .int .i64 p, .int .i64 s] := rfl
  have hv : Value.agg #[.int .i64 o, .int .i64 rd, .int .i64 r1, .int .i64 r2, .int .i64 imm, .bool aq, .bool rl, .int .i64 p, .int .i64 s] = instV (o : Nat) rd r1 r2 imm aq rl p s := rfl
  generalize hgV : instV (o : Nat) rd r1 r2 imm aq rl p s = V at hl hc hi he hc0 hv
  generalize hgC : instV (o : Nat) (if wrN' o then rd else 0) (if fiN o then r1 else 0) (if seN o then r2 else 0) imm aq rl p s = C at hc he
  show wp P0 (T K d) 0 K _ _ _
  refine lwp_midH [{ cells := V.cells.toList }] (fun env => evO env (.tmp 1) = .pointer (some ⟨0, 0, some 0⟩) ∧ evO env (.tmp 2) = .bool false) (by simp) fun env ⟨a1, a2⟩ => ?_
  have l0 : V.cells.size = 9 := by rw [← hgV]; rfl
  refine lwp_midH [{ cells := V.cells.toList }] (fun env => evO env (.tmp 1) = .pointer (some ⟨0, 0, some 0⟩) ∧ evO env (.tmp 2) = .bool false ∧ evO env (.tmp 4) = .bool (immB o imm)) (by simp [a1, a2, hc0, hv, hi]) ?_
  clear a1 a2
  rintro env ⟨a1, a2, a4⟩
  refine lwp_midH [{ cells := V.cells.toList }] (fun env => evO env (.tmp 1) = .pointer (some ⟨0, 0, some 0⟩) ∧ evO env (.tmp 2) = .bool false ∧ evO env (.tmp 4) = .bool (immB o imm) ∧ evO env (.tmp 5) = .int .i64 (sortN o)) (by simp [a1, a2, a4, hc0, hs]) ?_
  clear a1 a2 a4
  rintro env ⟨a1, a2, a4, a5⟩
  refine lwp_midH [{ cells := V.cells.toList }] (fun env => evO env (.tmp 1) = .pointer (some ⟨0, 0, some 0⟩) ∧ evO env (.tmp 2) = .bool false ∧ ¬ o = 50 ∧ ¬ o = 51 ∧ rightB o rd r1 r2 imm aq rl p s = (regsB rd r1 r2 && setsB o p s)) ?_ ?_
  · by_cases g1 : sortN o = 0
    · simp [L_encode_Right, a1, a2, a4, a5, g1, rightB]
    cases g2 : immB o imm with
    | false => simp [L_encode_Right, a1, a2, a4, a5, g1, g2, rightB]
    | true =>
    cases g3 : cleanB o rd r1 r2 with
    | false => simp [L_encode_Right, a1, a2, a4, a5, g1, g2, g3, hc0, hv, hc, he, rightB]
    | true =>
    by_cases g4 : (aq = true ∨ rl = true) ∧ sortN o < 10
    · have g5 : (sortN o : Int) < 10 := by omega
      have g6 : (aq || rl) = true := by simpa using g4.1
      have g7 := g4.2
      cases aq with
      | true => simp [L_encode_Right, a1, a2, a4, a5, g1, g2, g3, g5, g7, hc0, hv, hc, he, rightB]
      | false =>
        cases rl with
        | true => simp [L_encode_Right, a1, a2, a4, a5, g1, g2, g3, g5, g7, hc0, hv, hc, he, rightB]
        | false => simp at g6
    · have hR : rightB o rd r1 r2 imm aq rl p s = ((decide (o = 50) || decide (o = 51) || regsB rd r1 r2) && setsB o p s) := by
        have : ((aq || rl) && decide (sortN o < 10)) = false := by
          rw [Bool.eq_false_iff]
          intro hh
          simp at hh
          exact g4 hh
        simp [rightB, g1, g2, g3, this]
      have h16 : ∃ x : Bool, x = false ∧ ((aq || rl) = true → (decide ((sortN o : Int) < 10)) = x) := ⟨false, rfl, fun hh => by
        have : ¬ sortN o < 10 := fun hx => g4 ⟨by simpa using hh, hx⟩
        simp; omega⟩
      by_cases o50 : o = 50
      · have e1 : sortN o = 8 := by rw [o50]; decide
        have z : ((o : Int) = 50) = True := by simp; omega
        have e2 : aq = false ∧ rl = false := by
          rw [e1] at g4
          simpa using g4
        obtain ⟨rfl, rfl⟩ := e2
        rw [hR]
        have y : (o = 50) = True := by simp [o50]
        clear hR h16 g4 o50
        simp [L_encode_Right, a1, a2, a4, a5, g1, g2, g3, hc0, hv, hc, he, setsB, *]
        repeat' (first | simp [L_encode_Right, setsB, *] | (refine selB_byD (fun h => ?_) (fun h => ?_)) | (refine selB_byN (fun h => ?_) (fun h => ?_)) | (refine selB_byM (fun h => ?_) (fun h => ?_)) | (refine selB_by (fun h => ?_) (fun h => ?_)) | (refine selG_byD (fun h => ?_) (fun h => ?_)) | (refine selG_byN (fun h => ?_) (fun h => ?_)) | (refine selG_byM (fun h => ?_) (fun h => ?_)) | (refine selG_by (fun h => ?_) (fun h => ?_)) | (refine pick_byD (fun h => ?_) (fun h => ?_)) | (refine pick_byN (fun h => ?_) (fun h => ?_)) | (refine pick_byM (fun h => ?_) (fun h => ?_)) | (refine pick_by (fun h => ?_) (fun h => ?_)) | (refine sadd_by (by first | (simp; omega) | (simp; done) | omega) ?_) | omega | (intros; exfalso; omega) | (simp_all; done) | (intros; simp_all; done) | (rw [Bool.eq_iff_iff]; simp; omega))
      by_cases o51 : o = 51
      · have e1 : sortN o = 8 := by rw [o51]; decide
        have z : ((o : Int) = 51) = True := by simp; omega
        have z50 : ¬ (o : Int) = 50 := by omega
        have y50 : ¬ o = 50 := by omega
        have e2 : aq = false ∧ rl = false := by
          rw [e1] at g4
          simpa using g4
        obtain ⟨rfl, rfl⟩ := e2
        rw [hR]
        have y : (o = 51) = True := by simp [o51]
        clear hR h16 g4 o51
        simp [L_encode_Right, a1, a2, a4, a5, g1, g2, g3, hc0, hv, hc, he, setsB, *]
        repeat' (first | simp [L_encode_Right, setsB, *] | (refine selB_byD (fun h => ?_) (fun h => ?_)) | (refine selB_byN (fun h => ?_) (fun h => ?_)) | (refine selB_byM (fun h => ?_) (fun h => ?_)) | (refine selB_by (fun h => ?_) (fun h => ?_)) | (refine selG_byD (fun h => ?_) (fun h => ?_)) | (refine selG_byN (fun h => ?_) (fun h => ?_)) | (refine selG_byM (fun h => ?_) (fun h => ?_)) | (refine selG_by (fun h => ?_) (fun h => ?_)) | (refine pick_byD (fun h => ?_) (fun h => ?_)) | (refine pick_byN (fun h => ?_) (fun h => ?_)) | (refine pick_byM (fun h => ?_) (fun h => ?_)) | (refine pick_by (fun h => ?_) (fun h => ?_)) | (refine sadd_by (by first | (simp; omega) | (simp; done) | omega) ?_) | omega | (intros; exfalso; omega) | (simp_all; done) | (intros; simp_all; done) | (rw [Bool.eq_iff_iff]; simp; omega))
      have z50 : ¬ (o : Int) = 50 := by omega
      have z51 : ¬ (o : Int) = 51 := by omega
      cases aq with
      | true =>
        have g5 : ¬ (sortN o : Int) < 10 := by have : ¬ sortN o < 10 := fun hx => g4 ⟨.inl rfl, hx⟩; omega
        simp [L_encode_Right, a1, a2, a4, a5, g1, g2, g3, g5, hc0, hv, hc, he, z50, z51, o50, o51, hR]
      | false =>
        cases rl with
        | true =>
          have g5 : ¬ (sortN o : Int) < 10 := by have : ¬ sortN o < 10 := fun hx => g4 ⟨.inr rfl, hx⟩; omega
          simp [L_encode_Right, a1, a2, a4, a5, g1, g2, g3, g5, hc0, hv, hc, he, z50, z51, o50, o51, hR]
        | false => simp [L_encode_Right, a1, a2, a4, a5, g1, g2, g3, hc0, hv, hc, he, z50, z51, o50, o51, hR]
  clear a1 a2 a4 a5
  rintro env ⟨a1, a2, o50, o51, hR⟩
  rw [hR]
  clear hR
  refine lwp_midH [{ cells := V.cells.toList }] (fun env => evO env (.tmp 1) = .pointer (some ⟨0, 0, some 0⟩) ∧ regsB rd r1 r2 = true) ?_ ?_
  · refine lwp_midH [{ cells := V.cells.toList }] (fun env => evO env (.tmp 1) = .pointer (some ⟨0, 0, some 0⟩) ∧ evO env (.tmp 2) = .bool false ∧ evO env (.tmp 75) = .agg #[.int .i64 rd, .int .i64 r1, .int .i64 r2] ∧ evO env (.tmp 76) = .int .i64 0) (by simp [a1, a2, hc0, fillV, fillL]) ?_
    clear a1 a2
    rintro env ⟨a1, a2, a3, a4⟩
    refine lwp_block_of (loop_unr 4 (by decide) ?_)
    clear hv hgV hgC he hc hi
    simp [a1, a2, a3, a4, ix1V, L_encode_Right, regsB]
    repeat' (first | simp [L_encode_Right, regsB, *] | (refine selB_byD (fun h => ?_) (fun h => ?_)) | (refine selB_byN (fun h => ?_) (fun h => ?_)) | (refine selB_byM (fun h => ?_) (fun h => ?_)) | (refine selB_by (fun h => ?_) (fun h => ?_)) | (refine selG_byD (fun h => ?_) (fun h => ?_)) | (refine selG_byN (fun h => ?_) (fun h => ?_)) | (refine selG_byM (fun h => ?_) (fun h => ?_)) | (refine selG_by (fun h => ?_) (fun h => ?_)) | (refine pick_byD (fun h => ?_) (fun h => ?_)) | (refine pick_byN (fun h => ?_) (fun h => ?_)) | (refine pick_byM (fun h => ?_) (fun h => ?_)) | (refine pick_by (fun h => ?_) (fun h => ?_)) | (refine sadd_by (by first | (simp; omega) | (simp; done) | omega) ?_) | omega | (intros; exfalso; omega) | (simp_all; done) | (intros; simp_all; done) | (rw [Bool.eq_iff_iff]; simp; omega))
  clear a1 a2
  rintro env ⟨a1, hR⟩
  clear hv hgV hgC he hc hi
  simp [a1, hR, hc0, setsB, o50, o51, L_encode_Right]
  repeat' (first | simp [L_encode_Right, setsB, *] | (refine selB_byD (fun h => ?_) (fun h => ?_)) | (refine selB_byN (fun h => ?_) (fun h => ?_)) | (refine selB_byM (fun h => ?_) (fun h => ?_)) | (refine selB_by (fun h => ?_) (fun h => ?_)) | (refine selG_byD (fun h => ?_) (fun h => ?_)) | (refine selG_byN (fun h => ?_) (fun h => ?_)) | (refine selG_byM (fun h => ?_) (fun h => ?_)) | (refine selG_by (fun h => ?_) (fun h => ?_)) | (refine pick_byD (fun h => ?_) (fun h => ?_)) | (refine pick_byN (fun h => ?_) (fun h => ?_)) | (refine pick_byM (fun h => ?_) (fun h => ?_)) | (refine pick_by (fun h => ?_) (fun h => ?_)) | (refine sadd_by (by first | (simp; omega) | (simp; done) | omega) ?_) | omega | (intros; exfalso; omega) | (simp_all; done) | (intros; simp_all; done) | (rw [Bool.eq_iff_iff]; simp; omega))
end Go.Lev.Seat


namespace Go.Lev.Seat
open Go Go.Lev
set_option linter.unusedSimpArgs false
set_option linter.unusedVariables false
def ownB (o : Nat) (rd r1 r2 : Int) : Bool := (wrN' o || decide (rd = 0)) && (fiN o || decide (r1 = 0)) && (seN o || decide (r2 = 0))
def rightC (o : Nat) (rd r1 r2 imm : Int) (aq rl : Bool) (p s : Int) : Bool :=
  !decide (sortN o = 0) && regsB rd r1 r2 && (ownB o rd r1 r2 && (!decide (sortN o < 10) || (!aq && !rl))) && immB o imm && setsB o p s
theorem own_clean (o : Nat) (rd r1 r2 : Int) : cleanB o rd r1 r2 = ownB o rd r1 r2 := by
  have e : ∀ (b : Bool) (x : Int), ((if b then x else 0) == x) = (b || decide (x = 0)) := fun b x => by
    cases b with
    | true => simp
    | false =>
      rw [Bool.eq_iff_iff]
      simp
      omega
  simp [cleanB, ownB, e]
theorem right_C (o : Nat) (rd r1 r2 imm : Int) (aq rl : Bool) (p s : Int) : rightB o rd r1 r2 imm aq rl p s = rightC o rd r1 r2 imm aq rl p s := by
  rw [Bool.eq_iff_iff]
  have h50 : o = 50 ∨ o = 51 → wrN' o = false ∧ fiN o = false ∧ seN o = false := by
    rintro (rfl | rfl) <;> decide
  simp only [rightB, rightC, own_clean, Bool.and_eq_true, Bool.or_eq_true, Bool.not_eq_true', decide_eq_false_iff_not, decide_eq_true_eq, Bool.and_eq_false_iff, Bool.or_eq_false_iff]
  constructor
  · rintro ⟨⟨⟨⟨⟨a, b⟩, c⟩, e⟩, f⟩, g⟩
    refine ⟨⟨⟨⟨a, ?_⟩, c, ?_⟩, b⟩, g⟩
    · rcases f with f | f
      · obtain ⟨x, y, z⟩ := h50 f
        simp [ownB, x, y, z] at c
        simp [regsB, c]
      · exact f
    · rcases e with e | e
      · exact .inr e
      · exact .inl e
  · rintro ⟨⟨⟨⟨a, b⟩, c, e⟩, f⟩, g⟩
    exact ⟨⟨⟨⟨⟨a, f⟩, c⟩, e.elim (fun x => .inr x) .inl⟩, .inr b⟩, g⟩
theorem shift_form : ∀ i : Fin 76, (shiftN i.val = 0 ∨ shiftN i.val = 5 ∨ shiftN i.val = 6) ∧ (shiftN i.val ≠ 0 → formN i.val = 0) ∧ formN i.val ≤ 5 := by decide
theorem rright_run (o : Nat) (h : o < 76) (rd r1 r2 imm p s : Int) (aq rl : Bool) : Run 10 n_ref07_Right [instV (o : Nat) rd r1 r2 imm aq rl p s] (.bool (rightC o rd r1 r2 imm aq rl p s)) := by
  refine Run.text (F := L_ref07_Right) (fun _ _ => rfl) rfl (by simp [inst_sc]) (by simp [L_ref07_Right]) rfl fun d hd => ?_
  have hs := (Run.old3 fun fl H => rsort_in fl o H h).any (show 6 ≤ d by omega)
  have hw := (Run.old3 fun fl H => rwr_in fl o H h).any (show 6 ≤ d by omega)
  have hse := (Run.old3 fun fl H => rse_in fl o H h).any (show 6 ≤ d by omega)
  show wp P0 (T K d) 0 K _ _ _
  let V := instV (o : Nat) rd r1 r2 imm aq rl p s
  refine lwp_midH [{ cells := [.int .i64 o, .int .i64 rd, .int .i64 r1, .int .i64 r2, .int .i64 imm, .bool aq, .bool rl, .int .i64 p, .int .i64 s] }] (fun env => evO env (.tmp 1) = .pointer (some ⟨0, 0, some 0⟩)) (by simp [instV]) fun env a1 => ?_
  refine lwp_midH [{ cells := [.int .i64 o, .int .i64 rd, .int .i64 r1, .int .i64 r2, .int .i64 imm, .bool aq, .bool rl, .int .i64 p, .int .i64 s] }] (fun env => evO env (.tmp 1) = .pointer (some ⟨0, 0, some 0⟩) ∧ evO env (.tmp 3) = .int .i64 (sortN o)) (by simp [a1, hs]) ?_
  clear a1
  rintro env ⟨a1, a3⟩
  refine lwp_midH [{ cells := [.int .i64 o, .int .i64 rd, .int .i64 r1, .int .i64 r2, .int .i64 imm, .bool aq, .bool rl, .int .i64 p, .int .i64 s] }] (fun env => evO env (.tmp 1) = .pointer (some ⟨0, 0, some 0⟩) ∧ evO env (.tmp 3) = .int .i64 (sortN o) ∧ sortN o ≠ 0 ∧ regsB rd r1 r2 = true) ?_ ?_
  · simp [L_ref07_Right, a1, a3]
    repeat' (first | simp [L_ref07_Right, regsB, rightC, *] | (refine selB_byD (fun h => ?_) (fun h => ?_)) | (refine selB_byN (fun h => ?_) (fun h => ?_)) | (refine selB_byM (fun h => ?_) (fun h => ?_)) | (refine selB_by (fun h => ?_) (fun h => ?_)) | (refine selG_byD (fun h => ?_) (fun h => ?_)) | (refine selG_byN (fun h => ?_) (fun h => ?_)) | (refine selG_byM (fun h => ?_) (fun h => ?_)) | (refine selG_by (fun h => ?_) (fun h => ?_)) | (refine pick_byD (fun h => ?_) (fun h => ?_)) | (refine pick_byN (fun h => ?_) (fun h => ?_)) | (refine pick_byM (fun h => ?_) (fun h => ?_)) | (refine pick_by (fun h => ?_) (fun h => ?_)) | (refine sadd_by (by first | (simp; omega) | (simp; done) | omega) ?_) | omega | (intros; exfalso; omega) | (simp_all; done) | (intros; simp_all; done) | (rw [Bool.eq_iff_iff]; simp; omega))
  clear a1 a3
  rintro env ⟨a1, a3, g1, g2⟩
  have ho : 1 ≤ o := by
    rcases Nat.eq_zero_or_pos o with rfl | h
    · exact absurd rfl g1
    · exact h
  have hf := (Run.old3 fun fl H => rfirst_run fl o H h ho).any (show 8 ≤ d by omega)
  have hsh := (Run.old3 fun fl H => rshift_run fl o H h ho).any (show 8 ≤ d by omega)
  have hfo := (Run.old3 fun fl H => rform_run fl o H h ho).any (show 9 ≤ d by omega)
  have hR : rightC o rd r1 r2 imm aq rl p s = ((ownB o rd r1 r2 && (!decide (sortN o < 10) || (!aq && !rl))) && immB o imm && setsB o p s) := by simp [rightC, g1, g2]
  rw [hR]
  clear hR g2
  refine lwp_midH [{ cells := [.int .i64 o, .int .i64 rd, .int .i64 r1, .int .i64 r2, .int .i64 imm, .bool aq, .bool rl, .int .i64 p, .int .i64 s] }] (fun env => evO env (.tmp 1) = .pointer (some ⟨0, 0, some 0⟩) ∧ (ownB o rd r1 r2 && (!decide (sortN o < 10) || (!aq && !rl))) = true) ?_ ?_
  · have g10 : ((sortN o : Int) < 10) = (sortN o < 10) := by simp; omega
    simp [L_ref07_Right, a1, a3]
    repeat' (first | simp [L_ref07_Right, ownB, *] | (refine selB_byD (fun h => ?_) (fun h => ?_)) | (refine selB_byN (fun h => ?_) (fun h => ?_)) | (refine selB_byM (fun h => ?_) (fun h => ?_)) | (refine selB_by (fun h => ?_) (fun h => ?_)) | (refine selG_byD (fun h => ?_) (fun h => ?_)) | (refine selG_byN (fun h => ?_) (fun h => ?_)) | (refine selG_byM (fun h => ?_) (fun h => ?_)) | (refine selG_by (fun h => ?_) (fun h => ?_)) | (refine pick_byD (fun h => ?_) (fun h => ?_)) | (refine pick_byN (fun h => ?_) (fun h => ?_)) | (refine pick_byM (fun h => ?_) (fun h => ?_)) | (refine pick_by (fun h => ?_) (fun h => ?_)) | (refine sadd_by (by first | (simp; omega) | (simp; done) | omega) ?_) | omega | (intros; exfalso; omega) | (simp_all; done) | (intros; simp_all; done) | (rw [Bool.eq_iff_iff]; simp; omega))
  clear a1 a3
  rintro env ⟨a1, g3⟩
  rw [g3]
  clear g3
  obtain ⟨s1, s2, s3⟩ := shift_form ⟨o, h⟩
  simp only at s1 s2 s3
  refine lwp_midH [{ cells := [.int .i64 o, .int .i64 rd, .int .i64 r1, .int .i64 r2, .int .i64 imm, .bool aq, .bool rl, .int .i64 p, .int .i64 s] }] (fun env => evO env (.tmp 1) = .pointer (some ⟨0, 0, some 0⟩) ∧ evO env (.tmp 4) = .int .i64 (shiftN o) ∧ evO env (.tmp 5) = .int .i64 (formN o)) (by simp [a1, hsh, hfo]) ?_
  clear a1
  rintro env ⟨a1, a4, a5⟩
  refine lwp_midH [{ cells := [.int .i64 o, .int .i64 rd, .int .i64 r1, .int .i64 r2, .int .i64 imm, .bool aq, .bool rl, .int .i64 p, .int .i64 s] }] (fun env => evO env (.tmp 1) = .pointer (some ⟨0, 0, some 0⟩) ∧ immB o imm = true) ?_ ?_
  · rcases s1 with e | e | e
    · by_cases e2 : formN o = 0
      · simp [L_ref07_Right, a1, a4, a5, e, e2]
        repeat' (first | simp [L_ref07_Right, immB, *] | (refine selB_byD (fun h => ?_) (fun h => ?_)) | (refine selB_byN (fun h => ?_) (fun h => ?_)) | (refine selB_byM (fun h => ?_) (fun h => ?_)) | (refine selB_by (fun h => ?_) (fun h => ?_)) | (refine selG_byD (fun h => ?_) (fun h => ?_)) | (refine selG_byN (fun h => ?_) (fun h => ?_)) | (refine selG_byM (fun h => ?_) (fun h => ?_)) | (refine selG_by (fun h => ?_) (fun h => ?_)) | (refine pick_byD (fun h => ?_) (fun h => ?_)) | (refine pick_byN (fun h => ?_) (fun h => ?_)) | (refine pick_byM (fun h => ?_) (fun h => ?_)) | (refine pick_by (fun h => ?_) (fun h => ?_)) | (refine sadd_by (by first | (simp; omega) | (simp; done) | omega) ?_) | omega | (intros; exfalso; omega) | (simp_all; done) | (intros; simp_all; done) | (rw [Bool.eq_iff_iff]; simp; omega))
      · have hm := (Run.old3 (fun fl H => may_run 0 fl (formN o) imm H (by omega))).any (show 1 ≤ d by omega)
        have e3 : (0 : Int) < (formN o : Int) := by omega
        have e4 : 0 < formN o := by omega
        have e5 : ¬ (formN o : Int) = 0 := by omega
        simp [L_ref07_Right, a1, a4, a5, e, e2]
        repeat' (first | simp [L_ref07_Right, immB, *] | (refine selB_byD (fun h => ?_) (fun h => ?_)) | (refine selB_byN (fun h => ?_) (fun h => ?_)) | (refine selB_byM (fun h => ?_) (fun h => ?_)) | (refine selB_by (fun h => ?_) (fun h => ?_)) | (refine selG_byD (fun h => ?_) (fun h => ?_)) | (refine selG_byN (fun h => ?_) (fun h => ?_)) | (refine selG_byM (fun h => ?_) (fun h => ?_)) | (refine selG_by (fun h => ?_) (fun h => ?_)) | (refine pick_byD (fun h => ?_) (fun h => ?_)) | (refine pick_byN (fun h => ?_) (fun h => ?_)) | (refine pick_byM (fun h => ?_) (fun h => ?_)) | (refine pick_by (fun h => ?_) (fun h => ?_)) | (refine sadd_by (by first | (simp; omega) | (simp; done) | omega) ?_) | omega | (intros; exfalso; omega) | (simp_all; done) | (intros; simp_all; done) | (rw [Bool.eq_iff_iff]; simp; omega))
    · have e2 := s2 (by omega)
      simp [L_ref07_Right, a1, a4, a5, e, e2]
      repeat' (first | simp [L_ref07_Right, immB, *] | (refine selB_byD (fun h => ?_) (fun h => ?_)) | (refine selB_byN (fun h => ?_) (fun h => ?_)) | (refine selB_byM (fun h => ?_) (fun h => ?_)) | (refine selB_by (fun h => ?_) (fun h => ?_)) | (refine selG_byD (fun h => ?_) (fun h => ?_)) | (refine selG_byN (fun h => ?_) (fun h => ?_)) | (refine selG_byM (fun h => ?_) (fun h => ?_)) | (refine selG_by (fun h => ?_) (fun h => ?_)) | (refine pick_byD (fun h => ?_) (fun h => ?_)) | (refine pick_byN (fun h => ?_) (fun h => ?_)) | (refine pick_byM (fun h => ?_) (fun h => ?_)) | (refine pick_by (fun h => ?_) (fun h => ?_)) | (refine sadd_by (by first | (simp; omega) | (simp; done) | omega) ?_) | omega | (intros; exfalso; omega) | (simp_all; done) | (intros; simp_all; done) | (rw [Bool.eq_iff_iff]; simp; omega))
    · have e2 := s2 (by omega)
      simp [L_ref07_Right, a1, a4, a5, e, e2]
      repeat' (first | simp [L_ref07_Right, immB, *] | (refine selB_byD (fun h => ?_) (fun h => ?_)) | (refine selB_byN (fun h => ?_) (fun h => ?_)) | (refine selB_byM (fun h => ?_) (fun h => ?_)) | (refine selB_by (fun h => ?_) (fun h => ?_)) | (refine selG_byD (fun h => ?_) (fun h => ?_)) | (refine selG_byN (fun h => ?_) (fun h => ?_)) | (refine selG_byM (fun h => ?_) (fun h => ?_)) | (refine selG_by (fun h => ?_) (fun h => ?_)) | (refine pick_byD (fun h => ?_) (fun h => ?_)) | (refine pick_byN (fun h => ?_) (fun h => ?_)) | (refine pick_byM (fun h => ?_) (fun h => ?_)) | (refine pick_by (fun h => ?_) (fun h => ?_)) | (refine sadd_by (by first | (simp; omega) | (simp; done) | omega) ?_) | omega | (intros; exfalso; omega) | (simp_all; done) | (intros; simp_all; done) | (rw [Bool.eq_iff_iff]; simp; omega))
  clear a1 a4 a5
  rintro env ⟨a1, g4⟩
  rw [g4]
  have o50 : ((o : Int) = 50) = (o = 50) := by simp; omega
  have o51 : ((o : Int) = 51) = (o = 51) := by simp; omega
  simp [L_ref07_Right, a1]
  repeat' (first | simp [L_ref07_Right, setsB, *] | (refine selB_byD (fun h => ?_) (fun h => ?_)) | (refine selB_byN (fun h => ?_) (fun h => ?_)) | (refine selB_byM (fun h => ?_) (fun h => ?_)) | (refine selB_by (fun h => ?_) (fun h => ?_)) | (refine selG_byD (fun h => ?_) (fun h => ?_)) | (refine selG_byN (fun h => ?_) (fun h => ?_)) | (refine selG_byM (fun h => ?_) (fun h => ?_)) | (refine selG_by (fun h => ?_) (fun h => ?_)) | (refine pick_byD (fun h => ?_) (fun h => ?_)) | (refine pick_byN (fun h => ?_) (fun h => ?_)) | (refine pick_byM (fun h => ?_) (fun h => ?_)) | (refine pick_by (fun h => ?_) (fun h => ?_)) | (refine sadd_by (by first | (simp; omega) | (simp; done) | omega) ?_) | omega | (intros; exfalso; omega) | (simp_all; done) | (intros; simp_all; done) | (rw [Bool.eq_iff_iff]; simp; omega))
end Go.Lev.Seat

/- show.reg, set, name, parts, text. -/
import Derived.Test.YtcaogimdpcaohaaGreatDoorHd
import Derived.Lib.ItoaLen
set_option linter.unusedVariables false
set_option linter.unusedSimpArgs false
set_option linter.constructorNameAsVariable false

namespace Go.Lev.Seat
open Go Go.Lev
set_option linter.unusedSimpArgs false
set_option linter.unusedVariables false
def i64 (n : Int) : Prop := -9223372036854775808 ≤ n ∧ n ≤ 9223372036854775807
theorem itoa_row (n : Int) (h : i64 n) : Run 0 n_strconv_Itoa [.int .i64 n] (strV (Lib.itoa n)) := fun d fl H _ => tab_base (by
  show scRow gItoa fl [.int .i64 n] H = _
  have h' : -9223372036854775808 ≤ n ∧ n ≤ 9223372036854775807 := h
  simp [scRow, gItoa, h'])
theorem itoa_le (n : Int) (h : i64 n) : (Lib.itoa n).length ≤ 21 := Lib.itoa_length_le n h.1 h.2
theorem fmt_run (n : Int) (h : i64 n) : Run 0 n_strconv_FormatInt [.int .i64 n, .int .i64 10] (strV (Lib.itoa n)) := fun d fl H _ => fmt_row K d fl n H h
def regT (n : Int) : List UInt8 := 120 :: Lib.itoa n
theorem regT_run (n : Int) (h : i64 n) : Run 1 n_show_reg [.int .i64 n] (strV (regT n)) := by
  refine Run.text (F := L_show_reg) (fun _ _ => rfl) rfl rfl (by simp [L_show_reg]) rfl fun d hd => ?_
  have hi := (itoa_row n h).any hd
  have hl := itoa_le n h
  simp [L_show_reg]
  repeat' (first | simp [L_show_reg, regT, *] | (refine selB_byD (fun h => ?_) (fun h => ?_)) | (refine selB_byN (fun h => ?_) (fun h => ?_)) | (refine selB_byM (fun h => ?_) (fun h => ?_)) | (refine selB_by (fun h => ?_) (fun h => ?_)) | (refine selG_byD (fun h => ?_) (fun h => ?_)) | (refine selG_byN (fun h => ?_) (fun h => ?_)) | (refine selG_byM (fun h => ?_) (fun h => ?_)) | (refine selG_by (fun h => ?_) (fun h => ?_)) | (refine pick_byD (fun h => ?_) (fun h => ?_)) | (refine pick_byN (fun h => ?_) (fun h => ?_)) | (refine pick_byM (fun h => ?_) (fun h => ?_)) | (refine pick_by (fun h => ?_) (fun h => ?_)) | (refine sadd_by (by first | (simp; omega) | (simp; done) | omega) ?_) | omega | (intros; exfalso; omega) | (simp_all; done) | (intros; simp_all; done) | (rw [Bool.eq_iff_iff]; simp; omega))
def setL : List (List UInt8) := [[48], [119], [114], [114, 119], [111], [111, 119], [111, 114], [111, 114, 119], [105], [105, 119], [105, 114], [105, 114, 119], [105, 111], [105, 111, 119], [105, 111, 114], [105, 111, 114, 119]]
def setN (n : Nat) : List UInt8 := setL.getD n []
theorem set_tab : (List.range 16).map (fun n => T 300 2 n_show_set 0 [.int .i64 (n : Nat)] []) = (List.range 16).map (fun n => some (strV (setN n), [])) := by kernel_rfl
theorem set_run (n : Nat) (h : n < 16) : Run 2 n_show_set [.int .i64 (n : Nat)] (strV (setN n)) := Run.old3 fun fl H => tab_lift (fun _ _ => rfl) rfl (tab_at set_tab h)
theorem rset_tab : (List.range 16).map (fun n => T 300 2 n_ref09_Set 0 [.int .i64 (n : Nat)] []) = (List.range 16).map (fun n => some (strV (setN n), [])) := by kernel_rfl
theorem rset_run (n : Nat) (h : n < 16) : Run 2 n_ref09_Set [.int .i64 (n : Nat)] (strV (setN n)) := Run.old3 fun fl H => tab_lift (fun _ _ => rfl) rfl (tab_at rset_tab h)
def annT (aq rl : Bool) : List UInt8 := if aq then (if rl then [46, 97, 113, 114, 108] else [46, 97, 113]) else if rl then [46, 114, 108] else []
def nameT (o : Nat) (aq rl : Bool) : List UInt8 := nameN o ++ annT aq rl
theorem name_le : ∀ i : Fin 76, (nameN i.val).length ≤ 10 := by decide
theorem set_le (n : Nat) (h : n < 16) : (setN n).length ≤ 4 := by
  have : ∀ i : Fin 16, (setN i.val).length ≤ 4 := by decide
  exact this ⟨n, h⟩
theorem nameT_run (o : Nat) (h : o < 76) (h1 : 1 ≤ o) (rd r1 r2 imm p s : Int) (aq rl : Bool) : Run 8 n_show_name [instV (o : Nat) rd r1 r2 imm aq rl p s] (strV (nameT o aq rl)) := by
  refine Run.text (F := L_show_name) (fun _ _ => rfl) rfl (by simp [inst_sc]) (by simp [L_show_name]) rfl fun d hd => ?_
  have hn := (Run.old3 fun fl H => name_run fl o H h h1).any (show 7 ≤ d by omega)
  have hl := name_le ⟨o, h⟩
  simp only at hl
  simp [L_show_name, instV]
  repeat' (first | simp [L_show_name, nameT, annT, *] | (refine selB_byD (fun h => ?_) (fun h => ?_)) | (refine selB_byN (fun h => ?_) (fun h => ?_)) | (refine selB_byM (fun h => ?_) (fun h => ?_)) | (refine selB_by (fun h => ?_) (fun h => ?_)) | (refine selG_byD (fun h => ?_) (fun h => ?_)) | (refine selG_byN (fun h => ?_) (fun h => ?_)) | (refine selG_byM (fun h => ?_) (fun h => ?_)) | (refine selG_by (fun h => ?_) (fun h => ?_)) | (refine pick_byD (fun h => ?_) (fun h => ?_)) | (refine pick_byN (fun h => ?_) (fun h => ?_)) | (refine pick_byM (fun h => ?_) (fun h => ?_)) | (refine pick_by (fun h => ?_) (fun h => ?_)) | (refine sadd_by (by first | (simp; omega) | (simp; done) | omega) ?_) | omega | (intros; exfalso; omega) | (simp_all; done) | (intros; simp_all; done) | (rw [Bool.eq_iff_iff]; simp; omega))
def partsN (o : Nat) (rd r1 r2 imm p s : Int) : List (List UInt8) :=
  if sortN o = 1 then [regT rd, Lib.itoa imm] else
  if sortN o = 2 then (if o = 3 then [regT rd, Lib.itoa imm] else [regT rd, regT r1, Lib.itoa imm]) else
  if sortN o = 6 then [regT rd, regT r1, Lib.itoa imm] else
  if sortN o = 3 then [regT r1, regT r2, Lib.itoa imm] else
  if sortN o = 4 then [regT rd, Lib.itoa imm ++ 40 :: regT r1 ++ [41]] else
  if sortN o = 5 then [regT r2, Lib.itoa imm ++ 40 :: regT r1 ++ [41]] else
  if sortN o = 7 then [regT rd, regT r1, regT r2] else
  if sortN o = 8 then (if o = 50 then [setN p.toNat, setN s.toNat] else []) else
  if sortN o = 10 then [regT rd, 40 :: regT r1 ++ [41]] else
  if sortN o = 11 ∨ sortN o = 12 then [regT rd, regT r2, 40 :: regT r1 ++ [41]] else []
theorem regT_le (n : Int) (h : i64 n) : (regT n).length ≤ 22 := by have := itoa_le n h; simp [regT]; omega
theorem parts_run (o : Nat) (h : o < 76) (rd r1 r2 imm p s : Int) (aq rl : Bool) (hrd : i64 rd) (hr1 : i64 r1) (hr2 : i64 r2) (him : i64 imm) (hps : o = 50 → 0 ≤ p ∧ p ≤ 15 ∧ 0 ≤ s ∧ s ≤ 15) (d fl : Nat) (H : Heap) (hd : 7 ≤ d) :
    T K d n_show_parts fl [instV (o : Nat) rd r1 r2 imm aq rl p s] H = some (slV H.length (partsN o rd r1 r2 imm p s).length 1, H ++ slH (partsN o rd r1 r2 imm p s).length 1 ((partsN o rd r1 r2 imm p s).map strV)) := by
  obtain ⟨d, rfl⟩ : ∃ e, d = e + 1 := ⟨d - 1, by omega⟩
  refine tab_own (F := L_show_parts) rfl rfl (by simp [L_show_parts]) ?_
  show wp P0 (T K d) H.length K _ _ _
  have hs := (Run.old3 fun fl H => sort_in fl o H h).any (show 6 ≤ d by omega)
  have q0 := (fmt_run imm him).any (show 0 ≤ d by omega)
  have q1 := (regT_run rd hrd).any (show 1 ≤ d by omega)
  have q2 := (regT_run r1 hr1).any (show 1 ≤ d by omega)
  have q3 := (regT_run r2 hr2).any (show 1 ≤ d by omega)
  have l0 := itoa_le imm him
  have l1 := regT_le rd hrd
  have l2 := regT_le r1 hr1
  have l3 := regT_le r2 hr2
  have z3 : ((o : Int) = 3) = (o = 3) := by simp; omega
  have z50 : ((o : Int) = 50) = (o = 50) := by simp; omega
  have hs12 : sortN o ≤ 12 := by
    have : ∀ i : Fin 76, sortN i.val ≤ 12 := by decide
    exact this ⟨o, h⟩
  refine lwp_midH (H ++ [{ cells := [.int .i64 o, .int .i64 rd, .int .i64 r1, .int .i64 r2, .int .i64 imm, .bool aq, .bool rl, .int .i64 p, .int .i64 s] }]) (fun env => evO env (.tmp 1) = .pointer (some ⟨H.length, 0, some 0⟩) ∧ evO env (.tmp 2) = .slice none 0 0) (by simp [instV]) ?_
  rintro env ⟨a1, a2⟩
  refine lwp_midH (H ++ [{ cells := [.int .i64 o, .int .i64 rd, .int .i64 r1, .int .i64 r2, .int .i64 imm, .bool aq, .bool rl, .int .i64 p, .int .i64 s] }]) (fun env => evO env (.tmp 1) = .pointer (some ⟨H.length, 0, some 0⟩) ∧ evO env (.tmp 2) = .slice none 0 0 ∧ evO env (.tmp 3) = strV (Lib.itoa imm)) (by simp [a1, a2, q0]) ?_
  clear a1 a2
  rintro env ⟨a1, a2, a3⟩
  have hc : sortN o = 0 ∨ sortN o = 1 ∨ sortN o = 2 ∨ sortN o = 3 ∨ sortN o = 4 ∨ sortN o = 5 ∨ sortN o = 6 ∨ sortN o = 7 ∨ sortN o = 8 ∨ sortN o = 9 ∨ sortN o = 10 ∨ sortN o = 11 ∨ sortN o = 12 := by omega
  have e8 : o = 50 → sortN o = 8 := by rintro rfl; decide
  rcases hc with e | e | e | e | e | e | e | e | e | e | e | e | e
  · simp [L_show_parts, a1, a2, a3, hs, e, partsN]
  · simp [L_show_parts, a1, a2, a3, hs, e, partsN, zeroRow, fillL, q1]
  · by_cases o3 : o = 3
    · have z : ((o : Int) = 3) = True := by simp; omega
      have y : (o = 3) = True := by simp [o3]
      clear o3 z3
      simp [L_show_parts, a1, a2, a3, hs, e, partsN, zeroRow, fillL, q1, z, y]
    · simp [L_show_parts, a1, a2, a3, hs, e, partsN, zeroRow, fillL, q1, q2, z3, o3]
  · simp [L_show_parts, a1, a2, a3, hs, e, partsN, zeroRow, fillL, q2, q3]
  · simp [L_show_parts, a1, a2, a3, hs, e, partsN, zeroRow, fillL, q1, q2]
    repeat' (first | simp [L_show_parts, partsN, zeroRow, fillL, *] | (refine selB_byD (fun h => ?_) (fun h => ?_)) | (refine selB_byN (fun h => ?_) (fun h => ?_)) | (refine selB_byM (fun h => ?_) (fun h => ?_)) | (refine selB_by (fun h => ?_) (fun h => ?_)) | (refine selG_byD (fun h => ?_) (fun h => ?_)) | (refine selG_byN (fun h => ?_) (fun h => ?_)) | (refine selG_byM (fun h => ?_) (fun h => ?_)) | (refine selG_by (fun h => ?_) (fun h => ?_)) | (refine pick_byD (fun h => ?_) (fun h => ?_)) | (refine pick_byN (fun h => ?_) (fun h => ?_)) | (refine pick_byM (fun h => ?_) (fun h => ?_)) | (refine pick_by (fun h => ?_) (fun h => ?_)) | (refine sadd_by (by first | (simp; omega) | (simp; done) | omega) ?_) | omega | (intros; exfalso; omega) | (simp_all; done) | (intros; simp_all; done) | (rw [Bool.eq_iff_iff]; simp; omega))
  · simp [L_show_parts, a1, a2, a3, hs, e, partsN, zeroRow, fillL, q2, q3]
    repeat' (first | simp [L_show_parts, partsN, zeroRow, fillL, *] | (refine selB_byD (fun h => ?_) (fun h => ?_)) | (refine selB_byN (fun h => ?_) (fun h => ?_)) | (refine selB_byM (fun h => ?_) (fun h => ?_)) | (refine selB_by (fun h => ?_) (fun h => ?_)) | (refine selG_byD (fun h => ?_) (fun h => ?_)) | (refine selG_byN (fun h => ?_) (fun h => ?_)) | (refine selG_byM (fun h => ?_) (fun h => ?_)) | (refine selG_by (fun h => ?_) (fun h => ?_)) | (refine pick_byD (fun h => ?_) (fun h => ?_)) | (refine pick_byN (fun h => ?_) (fun h => ?_)) | (refine pick_byM (fun h => ?_) (fun h => ?_)) | (refine pick_by (fun h => ?_) (fun h => ?_)) | (refine sadd_by (by first | (simp; omega) | (simp; done) | omega) ?_) | omega | (intros; exfalso; omega) | (simp_all; done) | (intros; simp_all; done) | (rw [Bool.eq_iff_iff]; simp; omega))
  · simp [L_show_parts, a1, a2, a3, hs, e, partsN, zeroRow, fillL, q1, q2]
  · simp [L_show_parts, a1, a2, a3, hs, e, partsN, zeroRow, fillL, q1, q2, q3]
  · by_cases o50 : o = 50
    · obtain ⟨p0, p1, s0, s1⟩ := hps o50
      have q4 := (set_run p.toNat (by omega)).any (show 2 ≤ d by omega)
      have q5 := (set_run s.toNat (by omega)).any (show 2 ≤ d by omega)
      rw [Int.toNat_of_nonneg p0] at q4
      rw [Int.toNat_of_nonneg s0] at q5
      have z : ((o : Int) = 50) = True := by simp; omega
      have y : (o = 50) = True := by simp [o50]
      clear o50 z50
      simp [L_show_parts, a1, a2, a3, hs, e, partsN, zeroRow, fillL, z, y, q4, q5]
    · simp [L_show_parts, a1, a2, a3, hs, e, partsN, zeroRow, fillL, z50, o50]
  · simp [L_show_parts, a1, a2, a3, hs, e, partsN]
  · simp [L_show_parts, a1, a2, a3, hs, e, partsN, zeroRow, fillL, q1, q2]
    repeat' (first | simp [L_show_parts, partsN, zeroRow, fillL, *] | (refine selB_byD (fun h => ?_) (fun h => ?_)) | (refine selB_byN (fun h => ?_) (fun h => ?_)) | (refine selB_byM (fun h => ?_) (fun h => ?_)) | (refine selB_by (fun h => ?_) (fun h => ?_)) | (refine selG_byD (fun h => ?_) (fun h => ?_)) | (refine selG_byN (fun h => ?_) (fun h => ?_)) | (refine selG_byM (fun h => ?_) (fun h => ?_)) | (refine selG_by (fun h => ?_) (fun h => ?_)) | (refine pick_byD (fun h => ?_) (fun h => ?_)) | (refine pick_byN (fun h => ?_) (fun h => ?_)) | (refine pick_byM (fun h => ?_) (fun h => ?_)) | (refine pick_by (fun h => ?_) (fun h => ?_)) | (refine sadd_by (by first | (simp; omega) | (simp; done) | omega) ?_) | omega | (intros; exfalso; omega) | (simp_all; done) | (intros; simp_all; done) | (rw [Bool.eq_iff_iff]; simp; omega))
  · simp [L_show_parts, a1, a2, a3, hs, e, partsN, zeroRow, fillL, q1, q2, q3]
    repeat' (first | simp [L_show_parts, partsN, zeroRow, fillL, *] | (refine selB_byD (fun h => ?_) (fun h => ?_)) | (refine selB_byN (fun h => ?_) (fun h => ?_)) | (refine selB_byM (fun h => ?_) (fun h => ?_)) | (refine selB_by (fun h => ?_) (fun h => ?_)) | (refine selG_byD (fun h => ?_) (fun h => ?_)) | (refine selG_byN (fun h => ?_) (fun h => ?_)) | (refine selG_byM (fun h => ?_) (fun h => ?_)) | (refine selG_by (fun h => ?_) (fun h => ?_)) | (refine pick_byD (fun h => ?_) (fun h => ?_)) | (refine pick_byN (fun h => ?_) (fun h => ?_)) | (refine pick_byM (fun h => ?_) (fun h => ?_)) | (refine pick_by (fun h => ?_) (fun h => ?_)) | (refine sadd_by (by first | (simp; omega) | (simp; done) | omega) ?_) | omega | (intros; exfalso; omega) | (simp_all; done) | (intros; simp_all; done) | (rw [Bool.eq_iff_iff]; simp; omega))
  · simp [L_show_parts, a1, a2, a3, hs, e, partsN, zeroRow, fillL, q1, q2, q3]
    repeat' (first | simp [L_show_parts, partsN, zeroRow, fillL, *] | (refine selB_byD (fun h => ?_) (fun h => ?_)) | (refine selB_byN (fun h => ?_) (fun h => ?_)) | (refine selB_byM (fun h => ?_) (fun h => ?_)) | (refine selB_by (fun h => ?_) (fun h => ?_)) | (refine selG_byD (fun h => ?_) (fun h => ?_)) | (refine selG_byN (fun h => ?_) (fun h => ?_)) | (refine selG_byM (fun h => ?_) (fun h => ?_)) | (refine selG_by (fun h => ?_) (fun h => ?_)) | (refine pick_byD (fun h => ?_) (fun h => ?_)) | (refine pick_byN (fun h => ?_) (fun h => ?_)) | (refine pick_byM (fun h => ?_) (fun h => ?_)) | (refine pick_by (fun h => ?_) (fun h => ?_)) | (refine sadd_by (by first | (simp; omega) | (simp; done) | omega) ?_) | omega | (intros; exfalso; omega) | (simp_all; done) | (intros; simp_all; done) | (rw [Bool.eq_iff_iff]; simp; omega))
/-- A row of texts, joined. -/
theorem join_run (H X : Heap) (l : List (List UInt8)) (sep : List UInt8) (fl d : Nat) (h0 : l ≠ []) (h1 : (Lib.join l sep).length ≤ 140737488355328) (h2 : l.length ≤ 140737488355328) :
    T K d n_strings_Join fl [slV H.length l.length 1, strV sep] (H ++ (slH l.length 1 (l.map strV) ++ X)) = some (strV (Lib.join l sep), H ++ (slH l.length 1 (l.map strV) ++ X)) := by
  refine tab_base ?_
  show rJoin fl _ _ = _
  have hl : l.length ≠ 0 := by simpa using h0
  have hst : ∀ m : List (List UInt8), strsOf (m.map strV) = some (m.map fun x => ⟨x.toArray⟩) := by
    intro m
    induction m with
    | nil => rfl
    | cons a m ih => simp [strsOf, ih]
  have hmap : (l.map fun x => (⟨x.toArray⟩ : ByteArray)).map (fun b => b.data.toList) = l := by simp [Function.comp_def]
  have hr : rdN (H ++ (slH l.length 1 (l.map strV) ++ X)) ⟨H.length, 0, some 0⟩ l.length = some (l.map strV) := by
    simp [slH, hl]
    rw [List.take_of_length_le (by simp)]
  have hp : 0 < l.length := by omega
  simp only [slV, if_neg hl, rJoin, hr, hst, hmap]
  rw [if_pos ⟨hp, h1, h2⟩]
def textN (o : Nat) (rd r1 r2 imm : Int) (aq rl : Bool) (p s : Int) : List UInt8 :=
  if partsN o rd r1 r2 imm p s = [] then nameT o aq rl else nameT o aq rl ++ 32 :: Lib.join (partsN o rd r1 r2 imm p s) [44, 32]
theorem parts_few (o : Nat) (rd r1 r2 imm p s : Int) (hrd : i64 rd) (hr1 : i64 r1) (hr2 : i64 r2) (him : i64 imm) (hps : o = 50 → 0 ≤ p ∧ p ≤ 15 ∧ 0 ≤ s ∧ s ≤ 15) : (partsN o rd r1 r2 imm p s).length ≤ 3 ∧ (Lib.join (partsN o rd r1 r2 imm p s) [44, 32]).length ≤ 200 := by
  have l0 := itoa_le imm him
  have l1 := regT_le rd hrd
  have l2 := regT_le r1 hr1
  have l3 := regT_le r2 hr2
  unfold partsN
  repeat' split
  all_goals first
    | (simp [Lib.join]; omega)
    | (simp [Lib.join]; done)
    | (rename_i h; obtain ⟨p0, p1, s0, s1⟩ := hps h; have := set_le p.toNat (by omega); have := set_le s.toNat (by omega); simp [Lib.join]; omega)
theorem nameT_le (o : Nat) (h : o < 76) (aq rl : Bool) : (nameT o aq rl).length ≤ 15 := by
  have hl := name_le ⟨o, h⟩
  simp only at hl
  cases aq <;> cases rl <;> simp [nameT, annT] <;> omega
theorem text_run (o : Nat) (h : o < 76) (ho : 1 ≤ o) (rd r1 r2 imm p s : Int) (aq rl : Bool) (hrd : i64 rd) (hr1 : i64 r1) (hr2 : i64 r2) (him : i64 imm) (hps : o = 50 → 0 ≤ p ∧ p ≤ 15 ∧ 0 ≤ s ∧ s ≤ 15) :
    Run 9 n_show_text [instV (o : Nat) rd r1 r2 imm aq rl p s] (strV (textN o rd r1 r2 imm aq rl p s)) := by
  refine Run.text (F := L_show_text) (fun _ _ => rfl) rfl (by simp [inst_sc]) (by simp [L_show_text]) rfl fun d hd => ?_
  have hn := (nameT_run o h ho rd r1 r2 imm p s aq rl).any hd
  have hp := fun fl H => parts_run o h rd r1 r2 imm p s aq rl hrd hr1 hr2 him hps d fl H (by omega)
  obtain ⟨hf1, hf2⟩ := parts_few o rd r1 r2 imm p s hrd hr1 hr2 him hps
  have hnl := nameT_le o h aq rl
  have hl : ∀ X : Heap, rdN ({ cells := (instV (o : Nat) rd r1 r2 imm aq rl p s).cells.toList } :: X) ⟨0, 0, some 0⟩ 9 = some (instV (o : Nat) rd r1 r2 imm aq rl p s).cells.toList := fun X => rfl
  have hv : Value.agg (instV (o : Nat) rd r1 r2 imm aq rl p s).cells = instV (o : Nat) rd r1 r2 imm aq rl p s := rfl
  have hj := fun H X fl h0 => join_run H X (partsN o rd r1 r2 imm p s) [44, 32] fl d h0 (by omega) (by omega)
  unfold textN
  generalize instV (o : Nat) rd r1 r2 imm aq rl p s = V at hn hp hl hv
  generalize partsN o rd r1 r2 imm p s = l at hp hj hf1 hf2
  generalize nameT o aq rl = nm at hn hnl
  show wp P0 (T K d) 0 K _ _ _
  refine lwp_midH [{ cells := V.cells.toList }] (fun env => evO env (.tmp 1) = .pointer (some ⟨0, 0, some 0⟩) ∧ evO env (.tmp 2) = strV []) (by simp) ?_
  rintro env ⟨a1, a2⟩
  refine lwp_midH ([{ cells := V.cells.toList }] ++ (slH l.length 1 (l.map strV) ++ [])) (fun env => evO env (.tmp 1) = .pointer (some ⟨0, 0, some 0⟩) ∧ evO env (.tmp 3) = slV 1 l.length 1) (by simp [a1, hl, hv, hp]) ?_
  clear a1 a2
  rintro env ⟨a1, a3⟩
  by_cases hnil : l = []
  · subst hnil
    simp [L_show_text, a1, a3, hl, hv, slV, slH, hn]
  · have hz : l.length ≠ 0 := by simpa using hnil
    have hz' : ¬ (l.length : Int) = 0 := by omega
    have hj1 := hj [{ cells := V.cells.toList }] [] 0 hnil
    refine lwp_midH ([{ cells := V.cells.toList }] ++ (slH l.length 1 (l.map strV) ++ [])) (fun env => evO env (.tmp 1) = .pointer (some ⟨0, 0, some 0⟩) ∧ evO env (.tmp 3) = slV 1 l.length 1) (by simp [a1, a3, slV, hz, hz', hnil]) ?_
    clear a1 a3
    rintro env ⟨a1, a3⟩
    rw [if_neg hnil]
    simp at hj1
    simp [L_show_text, a1, a3, hl, hv, hn]
    repeat' (first | simp [L_show_text, *] | (refine selB_byD (fun h => ?_) (fun h => ?_)) | (refine selB_byN (fun h => ?_) (fun h => ?_)) | (refine selB_byM (fun h => ?_) (fun h => ?_)) | (refine selB_by (fun h => ?_) (fun h => ?_)) | (refine selG_byD (fun h => ?_) (fun h => ?_)) | (refine selG_byN (fun h => ?_) (fun h => ?_)) | (refine selG_byM (fun h => ?_) (fun h => ?_)) | (refine selG_by (fun h => ?_) (fun h => ?_)) | (refine pick_byD (fun h => ?_) (fun h => ?_)) | (refine pick_byN (fun h => ?_) (fun h => ?_)) | (refine pick_byM (fun h => ?_) (fun h => ?_)) | (refine pick_by (fun h => ?_) (fun h => ?_)) | (refine sadd_by (by first | (simp; omega) | (simp; done) | omega) ?_) | omega | (intros; exfalso; omega) | (simp_all; done) | (intros; simp_all; done) | (rw [Bool.eq_iff_iff]; simp; omega))
end Go.Lev.Seat


namespace Go.Lev.Seat
open Go Go.Lev
set_option linter.unusedSimpArgs false
set_option linter.unusedVariables false
set_option maxHeartbeats 2000000
theorem digits_any (n : Int) (h : i64 n) : Run 1 n_ref09_Digits [.int .i64 n] (strV (Lib.itoa n)) := fun d fl H hd => by
  obtain ⟨e, rfl⟩ : ∃ e, d = e + 1 := ⟨d - 1, by omega⟩
  exact digits_run K e fl n H (by decide) h.1 h.2
theorem rtext_run (o : Nat) (h : o < 76) (ho : 1 ≤ o) (rd r1 r2 imm p s : Int) (aq rl : Bool) (hrd : i64 rd) (hr1 : i64 r1) (hr2 : i64 r2) (him : i64 imm) (hps : o = 50 → 0 ≤ p ∧ p ≤ 15 ∧ 0 ≤ s ∧ s ≤ 15) :
    Run 9 n_ref09_Text [instV (o : Nat) rd r1 r2 imm aq rl p s] (strV (textN o rd r1 r2 imm aq rl p s)) := by
  refine Run.text (F := L_ref09_Text) (fun _ _ => rfl) rfl (by simp [inst_sc]) (by simp [L_ref09_Text]) rfl fun d hd => ?_
  have hs := (Run.old3 fun fl H => rsort_in fl o H h).any (show 6 ≤ d by omega)
  have hn := (Run.old3 fun fl H => rname_run fl o H h ho).any (show 7 ≤ d by omega)
  have hl := name_le ⟨o, h⟩
  simp only at hl
  have q0 := (digits_any imm him).any (show 1 ≤ d by omega)
  have q1 := (digits_any rd hrd).any (show 1 ≤ d by omega)
  have q2 := (digits_any r1 hr1).any (show 1 ≤ d by omega)
  have q3 := (digits_any r2 hr2).any (show 1 ≤ d by omega)
  have l0 := itoa_le imm him
  have l1 := itoa_le rd hrd
  have l2 := itoa_le r1 hr1
  have l3 := itoa_le r2 hr2
  have w : ∀ x, i64 x → IntKind.i64.wrap x = x := fun x hx => wrap_i64_id hx.1 hx.2
  have w1 := w rd hrd
  have w2 := w r1 hr1
  have w3 := w r2 hr2
  have z3 : ((o : Int) = 3) = (o = 3) := by simp; omega
  have z50 : ((o : Int) = 50) = (o = 50) := by simp; omega
  show wp P0 (T K d) 0 K _ _ _
  refine lwp_midH [{ cells := [.int .i64 o, .int .i64 rd, .int .i64 r1, .int .i64 r2, .int .i64 imm, .bool aq, .bool rl, .int .i64 p, .int .i64 s] }] (fun env => evO env (.tmp 1) = .pointer (some ⟨0, 0, some 0⟩)) (by simp [instV]) fun env a1 => ?_
  refine lwp_midH [{ cells := [.int .i64 o, .int .i64 rd, .int .i64 r1, .int .i64 r2, .int .i64 imm, .bool aq, .bool rl, .int .i64 p, .int .i64 s] }] (fun env => evO env (.tmp 1) = .pointer (some ⟨0, 0, some 0⟩) ∧ evO env (.tmp 3) = .int .i64 (sortN o)) (by simp [a1, hs]) ?_
  clear a1
  rintro env ⟨a1, a3⟩
  refine lwp_midH [{ cells := [.int .i64 o, .int .i64 rd, .int .i64 r1, .int .i64 r2, .int .i64 imm, .bool aq, .bool rl, .int .i64 p, .int .i64 s] }] (fun env => evO env (.tmp 1) = .pointer (some ⟨0, 0, some 0⟩) ∧ evO env (.tmp 3) = .int .i64 (sortN o) ∧ evO env (.tmp 4) = strV (nameN o)) (by simp [a1, a3, hn]) ?_
  clear a1 a3
  rintro env ⟨a1, a3, a4⟩
  refine lwp_midH [{ cells := [.int .i64 o, .int .i64 rd, .int .i64 r1, .int .i64 r2, .int .i64 imm, .bool aq, .bool rl, .int .i64 p, .int .i64 s] }] (fun env => evO env (.tmp 1) = .pointer (some ⟨0, 0, some 0⟩) ∧ evO env (.tmp 3) = .int .i64 (sortN o) ∧ evO env (.tmp 4) = strV (nameN o ++ if aq || rl then [46] else [])) ?_ ?_
  · simp [a1, a3, a4]
    repeat' (first | simp [*] | (refine selB_byD (fun h => ?_) (fun h => ?_)) | (refine selB_byN (fun h => ?_) (fun h => ?_)) | (refine selB_byM (fun h => ?_) (fun h => ?_)) | (refine selB_by (fun h => ?_) (fun h => ?_)) | (refine selG_byD (fun h => ?_) (fun h => ?_)) | (refine selG_byN (fun h => ?_) (fun h => ?_)) | (refine selG_byM (fun h => ?_) (fun h => ?_)) | (refine selG_by (fun h => ?_) (fun h => ?_)) | (refine pick_byD (fun h => ?_) (fun h => ?_)) | (refine pick_byN (fun h => ?_) (fun h => ?_)) | (refine pick_byM (fun h => ?_) (fun h => ?_)) | (refine pick_by (fun h => ?_) (fun h => ?_)) | (refine sadd_by (by first | (simp; omega) | (simp; done) | omega) ?_) | omega | (intros; exfalso; omega) | (simp_all; done) | (intros; simp_all; done) | (rw [Bool.eq_iff_iff]; simp; omega))
  clear a1 a3 a4
  rintro env ⟨a1, a3, a4⟩
  have m1 : (nameN o ++ if aq || rl then [46] else []).length ≤ 11 := by
    simp; split <;> simp <;> omega
  generalize hm1 : (nameN o ++ if aq || rl then [46] else []) = nm1 at a4 m1
  refine lwp_midH [{ cells := [.int .i64 o, .int .i64 rd, .int .i64 r1, .int .i64 r2, .int .i64 imm, .bool aq, .bool rl, .int .i64 p, .int .i64 s] }] (fun env => evO env (.tmp 1) = .pointer (some ⟨0, 0, some 0⟩) ∧ evO env (.tmp 3) = .int .i64 (sortN o) ∧ evO env (.tmp 4) = strV (nm1 ++ if aq then [97, 113] else [])) ?_ ?_
  · simp [a1, a3, a4]
    repeat' (first | simp [*] | (refine selB_byD (fun h => ?_) (fun h => ?_)) | (refine selB_byN (fun h => ?_) (fun h => ?_)) | (refine selB_byM (fun h => ?_) (fun h => ?_)) | (refine selB_by (fun h => ?_) (fun h => ?_)) | (refine selG_byD (fun h => ?_) (fun h => ?_)) | (refine selG_byN (fun h => ?_) (fun h => ?_)) | (refine selG_byM (fun h => ?_) (fun h => ?_)) | (refine selG_by (fun h => ?_) (fun h => ?_)) | (refine pick_byD (fun h => ?_) (fun h => ?_)) | (refine pick_byN (fun h => ?_) (fun h => ?_)) | (refine pick_byM (fun h => ?_) (fun h => ?_)) | (refine pick_by (fun h => ?_) (fun h => ?_)) | (refine sadd_by (by first | (simp; omega) | (simp; done) | omega) ?_) | omega | (intros; exfalso; omega) | (simp_all; done) | (intros; simp_all; done) | (rw [Bool.eq_iff_iff]; simp; omega))
  clear a1 a3 a4
  rintro env ⟨a1, a3, a4⟩
  have m2 : (nm1 ++ if aq then [97, 113] else []).length ≤ 13 := by
    simp; split <;> simp <;> omega
  generalize hm2 : (nm1 ++ if aq then [97, 113] else []) = nm2 at a4 m2
  refine lwp_midH [{ cells := [.int .i64 o, .int .i64 rd, .int .i64 r1, .int .i64 r2, .int .i64 imm, .bool aq, .bool rl, .int .i64 p, .int .i64 s] }] (fun env => evO env (.tmp 1) = .pointer (some ⟨0, 0, some 0⟩) ∧ evO env (.tmp 3) = .int .i64 (sortN o) ∧ evO env (.tmp 4) = strV (nameT o aq rl)) ?_ ?_
  · have hT : nameT o aq rl = nm2 ++ if rl then [114, 108] else [] := by
      rw [← hm2, ← hm1]
      cases aq <;> cases rl <;> simp [nameT, annT]
    rw [hT]
    clear hm1 hm2
    simp [a1, a3, a4]
    repeat' (first | simp [*] | (refine selB_byD (fun h => ?_) (fun h => ?_)) | (refine selB_byN (fun h => ?_) (fun h => ?_)) | (refine selB_byM (fun h => ?_) (fun h => ?_)) | (refine selB_by (fun h => ?_) (fun h => ?_)) | (refine selG_byD (fun h => ?_) (fun h => ?_)) | (refine selG_byN (fun h => ?_) (fun h => ?_)) | (refine selG_byM (fun h => ?_) (fun h => ?_)) | (refine selG_by (fun h => ?_) (fun h => ?_)) | (refine pick_byD (fun h => ?_) (fun h => ?_)) | (refine pick_byN (fun h => ?_) (fun h => ?_)) | (refine pick_byM (fun h => ?_) (fun h => ?_)) | (refine pick_by (fun h => ?_) (fun h => ?_)) | (refine sadd_by (by first | (simp; omega) | (simp; done) | omega) ?_) | omega | (intros; exfalso; omega) | (simp_all; done) | (intros; simp_all; done) | (rw [Bool.eq_iff_iff]; simp; omega))
  clear a1 a3 a4 hm1 hm2 m1 m2
  rintro env ⟨a1, a3, a4⟩
  have hnl := nameT_le o h aq rl
  unfold textN
  generalize nameT o aq rl = nm at a4 hnl
  refine lwp_midH [{ cells := [.int .i64 o, .int .i64 rd, .int .i64 r1, .int .i64 r2, .int .i64 imm, .bool aq, .bool rl, .int .i64 p, .int .i64 s] }] (fun env => evO env (.tmp 1) = .pointer (some ⟨0, 0, some 0⟩) ∧ evO env (.tmp 3) = .int .i64 (sortN o) ∧ evO env (.tmp 4) = strV nm ∧ evO env (.tmp 5) = strV (regT rd) ∧ evO env (.tmp 6) = strV (regT r1) ∧ evO env (.tmp 7) = strV (regT r2) ∧ evO env (.tmp 8) = strV (Lib.itoa imm)) ?_ ?_
  · simp [a1, a3, a4]
    repeat' (first | simp [regT, *] | (refine selB_byD (fun h => ?_) (fun h => ?_)) | (refine selB_byN (fun h => ?_) (fun h => ?_)) | (refine selB_byM (fun h => ?_) (fun h => ?_)) | (refine selB_by (fun h => ?_) (fun h => ?_)) | (refine selG_byD (fun h => ?_) (fun h => ?_)) | (refine selG_byN (fun h => ?_) (fun h => ?_)) | (refine selG_byM (fun h => ?_) (fun h => ?_)) | (refine selG_by (fun h => ?_) (fun h => ?_)) | (refine pick_byD (fun h => ?_) (fun h => ?_)) | (refine pick_byN (fun h => ?_) (fun h => ?_)) | (refine pick_byM (fun h => ?_) (fun h => ?_)) | (refine pick_by (fun h => ?_) (fun h => ?_)) | (refine sadd_by (by first | (simp; omega) | (simp; done) | omega) ?_) | omega | (intros; exfalso; omega) | (simp_all; done) | (intros; simp_all; done) | (rw [Bool.eq_iff_iff]; simp; omega))
  clear a1 a3 a4 q0 q1 q2 q3
  rintro env ⟨a1, a3, a4, a5, a6, a7, a8⟩
  have l1 := regT_le rd hrd
  have l2 := regT_le r1 hr1
  have l3 := regT_le r2 hr2
  have hs12 : sortN o ≤ 12 := by
    have : ∀ i : Fin 76, sortN i.val ≤ 12 := by decide
    exact this ⟨o, h⟩
  have hc : sortN o = 0 ∨ sortN o = 1 ∨ sortN o = 2 ∨ sortN o = 3 ∨ sortN o = 4 ∨ sortN o = 5 ∨ sortN o = 6 ∨ sortN o = 7 ∨ sortN o = 8 ∨ sortN o = 9 ∨ sortN o = 10 ∨ sortN o = 11 ∨ sortN o = 12 := by omega
  have e8 : sortN o ≠ 8 → ¬ o = 50 := by rintro h rfl; exact h (by decide)
  have e2 : sortN o ≠ 2 → ¬ o = 3 := by rintro h rfl; exact h (by decide)
  rcases hc with e | e | e | e | e | e | e | e | e | e | e | e | e
  · have e8 := e8 (by omega)
    have e2 := e2 (by omega)
    simp [L_ref09_Text, a1, a3, a4, e, z3, z50, e8, e2, partsN]
  · have e8 := e8 (by omega)
    have e2 := e2 (by omega)
    simp [L_ref09_Text, a1, a3, a4, e, z3, z50, e8, e2, partsN]
    repeat' (first | simp [L_ref09_Text, partsN, Lib.join, *] | (refine selB_byD (fun h => ?_) (fun h => ?_)) | (refine selB_byN (fun h => ?_) (fun h => ?_)) | (refine selB_byM (fun h => ?_) (fun h => ?_)) | (refine selB_by (fun h => ?_) (fun h => ?_)) | (refine selG_byD (fun h => ?_) (fun h => ?_)) | (refine selG_byN (fun h => ?_) (fun h => ?_)) | (refine selG_byM (fun h => ?_) (fun h => ?_)) | (refine selG_by (fun h => ?_) (fun h => ?_)) | (refine pick_byD (fun h => ?_) (fun h => ?_)) | (refine pick_byN (fun h => ?_) (fun h => ?_)) | (refine pick_byM (fun h => ?_) (fun h => ?_)) | (refine pick_by (fun h => ?_) (fun h => ?_)) | (refine sadd_by (by first | (simp; omega) | (simp; done) | omega) ?_) | omega | (intros; exfalso; omega) | (simp_all; done) | (intros; simp_all; done) | (rw [Bool.eq_iff_iff]; simp; omega))
  · have e8 := e8 (by omega)
    by_cases o3 : o = 3
    · have z : ((o : Int) = 3) = True := by simp; omega
      have y : (o = 3) = True := by simp [o3]
      clear o3 z3
      simp [L_ref09_Text, a1, a3, a4, e, z, y, z50, e8, partsN]
      repeat' (first | simp [L_ref09_Text, partsN, Lib.join, *] | (refine selB_byD (fun h => ?_) (fun h => ?_)) | (refine selB_byN (fun h => ?_) (fun h => ?_)) | (refine selB_byM (fun h => ?_) (fun h => ?_)) | (refine selB_by (fun h => ?_) (fun h => ?_)) | (refine selG_byD (fun h => ?_) (fun h => ?_)) | (refine selG_byN (fun h => ?_) (fun h => ?_)) | (refine selG_byM (fun h => ?_) (fun h => ?_)) | (refine selG_by (fun h => ?_) (fun h => ?_)) | (refine pick_byD (fun h => ?_) (fun h => ?_)) | (refine pick_byN (fun h => ?_) (fun h => ?_)) | (refine pick_byM (fun h => ?_) (fun h => ?_)) | (refine pick_by (fun h => ?_) (fun h => ?_)) | (refine sadd_by (by first | (simp; omega) | (simp; done) | omega) ?_) | omega | (intros; exfalso; omega) | (simp_all; done) | (intros; simp_all; done) | (rw [Bool.eq_iff_iff]; simp; omega))
    · simp [L_ref09_Text, a1, a3, a4, e, z3, z50, e8, o3, partsN]
      repeat' (first | simp [L_ref09_Text, partsN, Lib.join, *] | (refine selB_byD (fun h => ?_) (fun h => ?_)) | (refine selB_byN (fun h => ?_) (fun h => ?_)) | (refine selB_byM (fun h => ?_) (fun h => ?_)) | (refine selB_by (fun h => ?_) (fun h => ?_)) | (refine selG_byD (fun h => ?_) (fun h => ?_)) | (refine selG_byN (fun h => ?_) (fun h => ?_)) | (refine selG_byM (fun h => ?_) (fun h => ?_)) | (refine selG_by (fun h => ?_) (fun h => ?_)) | (refine pick_byD (fun h => ?_) (fun h => ?_)) | (refine pick_byN (fun h => ?_) (fun h => ?_)) | (refine pick_byM (fun h => ?_) (fun h => ?_)) | (refine pick_by (fun h => ?_) (fun h => ?_)) | (refine sadd_by (by first | (simp; omega) | (simp; done) | omega) ?_) | omega | (intros; exfalso; omega) | (simp_all; done) | (intros; simp_all; done) | (rw [Bool.eq_iff_iff]; simp; omega))
  · have e8 := e8 (by omega)
    have e2 := e2 (by omega)
    simp [L_ref09_Text, a1, a3, a4, e, z3, z50, e8, e2, partsN]
    repeat' (first | simp [L_ref09_Text, partsN, Lib.join, *] | (refine selB_byD (fun h => ?_) (fun h => ?_)) | (refine selB_byN (fun h => ?_) (fun h => ?_)) | (refine selB_byM (fun h => ?_) (fun h => ?_)) | (refine selB_by (fun h => ?_) (fun h => ?_)) | (refine selG_byD (fun h => ?_) (fun h => ?_)) | (refine selG_byN (fun h => ?_) (fun h => ?_)) | (refine selG_byM (fun h => ?_) (fun h => ?_)) | (refine selG_by (fun h => ?_) (fun h => ?_)) | (refine pick_byD (fun h => ?_) (fun h => ?_)) | (refine pick_byN (fun h => ?_) (fun h => ?_)) | (refine pick_byM (fun h => ?_) (fun h => ?_)) | (refine pick_by (fun h => ?_) (fun h => ?_)) | (refine sadd_by (by first | (simp; omega) | (simp; done) | omega) ?_) | omega | (intros; exfalso; omega) | (simp_all; done) | (intros; simp_all; done) | (rw [Bool.eq_iff_iff]; simp; omega))
  · have e8 := e8 (by omega)
    have e2 := e2 (by omega)
    simp [L_ref09_Text, a1, a3, a4, e, z3, z50, e8, e2, partsN]
    repeat' (first | simp [L_ref09_Text, partsN, Lib.join, *] | (refine selB_byD (fun h => ?_) (fun h => ?_)) | (refine selB_byN (fun h => ?_) (fun h => ?_)) | (refine selB_byM (fun h => ?_) (fun h => ?_)) | (refine selB_by (fun h => ?_) (fun h => ?_)) | (refine selG_byD (fun h => ?_) (fun h => ?_)) | (refine selG_byN (fun h => ?_) (fun h => ?_)) | (refine selG_byM (fun h => ?_) (fun h => ?_)) | (refine selG_by (fun h => ?_) (fun h => ?_)) | (refine pick_byD (fun h => ?_) (fun h => ?_)) | (refine pick_byN (fun h => ?_) (fun h => ?_)) | (refine pick_byM (fun h => ?_) (fun h => ?_)) | (refine pick_by (fun h => ?_) (fun h => ?_)) | (refine sadd_by (by first | (simp; omega) | (simp; done) | omega) ?_) | omega | (intros; exfalso; omega) | (simp_all; done) | (intros; simp_all; done) | (rw [Bool.eq_iff_iff]; simp; omega))
  · have e8 := e8 (by omega)
    have e2 := e2 (by omega)
    simp [L_ref09_Text, a1, a3, a4, e, z3, z50, e8, e2, partsN]
    repeat' (first | simp [L_ref09_Text, partsN, Lib.join, *] | (refine selB_byD (fun h => ?_) (fun h => ?_)) | (refine selB_byN (fun h => ?_) (fun h => ?_)) | (refine selB_byM (fun h => ?_) (fun h => ?_)) | (refine selB_by (fun h => ?_) (fun h => ?_)) | (refine selG_byD (fun h => ?_) (fun h => ?_)) | (refine selG_byN (fun h => ?_) (fun h => ?_)) | (refine selG_byM (fun h => ?_) (fun h => ?_)) | (refine selG_by (fun h => ?_) (fun h => ?_)) | (refine pick_byD (fun h => ?_) (fun h => ?_)) | (refine pick_byN (fun h => ?_) (fun h => ?_)) | (refine pick_byM (fun h => ?_) (fun h => ?_)) | (refine pick_by (fun h => ?_) (fun h => ?_)) | (refine sadd_by (by first | (simp; omega) | (simp; done) | omega) ?_) | omega | (intros; exfalso; omega) | (simp_all; done) | (intros; simp_all; done) | (rw [Bool.eq_iff_iff]; simp; omega))
  · have e8 := e8 (by omega)
    have e2 := e2 (by omega)
    simp [L_ref09_Text, a1, a3, a4, e, z3, z50, e8, e2, partsN]
    repeat' (first | simp [L_ref09_Text, partsN, Lib.join, *] | (refine selB_byD (fun h => ?_) (fun h => ?_)) | (refine selB_byN (fun h => ?_) (fun h => ?_)) | (refine selB_byM (fun h => ?_) (fun h => ?_)) | (refine selB_by (fun h => ?_) (fun h => ?_)) | (refine selG_byD (fun h => ?_) (fun h => ?_)) | (refine selG_byN (fun h => ?_) (fun h => ?_)) | (refine selG_byM (fun h => ?_) (fun h => ?_)) | (refine selG_by (fun h => ?_) (fun h => ?_)) | (refine pick_byD (fun h => ?_) (fun h => ?_)) | (refine pick_byN (fun h => ?_) (fun h => ?_)) | (refine pick_byM (fun h => ?_) (fun h => ?_)) | (refine pick_by (fun h => ?_) (fun h => ?_)) | (refine sadd_by (by first | (simp; omega) | (simp; done) | omega) ?_) | omega | (intros; exfalso; omega) | (simp_all; done) | (intros; simp_all; done) | (rw [Bool.eq_iff_iff]; simp; omega))
  · have e8 := e8 (by omega)
    have e2 := e2 (by omega)
    simp [L_ref09_Text, a1, a3, a4, e, z3, z50, e8, e2, partsN]
    repeat' (first | simp [L_ref09_Text, partsN, Lib.join, *] | (refine selB_byD (fun h => ?_) (fun h => ?_)) | (refine selB_byN (fun h => ?_) (fun h => ?_)) | (refine selB_byM (fun h => ?_) (fun h => ?_)) | (refine selB_by (fun h => ?_) (fun h => ?_)) | (refine selG_byD (fun h => ?_) (fun h => ?_)) | (refine selG_byN (fun h => ?_) (fun h => ?_)) | (refine selG_byM (fun h => ?_) (fun h => ?_)) | (refine selG_by (fun h => ?_) (fun h => ?_)) | (refine pick_byD (fun h => ?_) (fun h => ?_)) | (refine pick_byN (fun h => ?_) (fun h => ?_)) | (refine pick_byM (fun h => ?_) (fun h => ?_)) | (refine pick_by (fun h => ?_) (fun h => ?_)) | (refine sadd_by (by first | (simp; omega) | (simp; done) | omega) ?_) | omega | (intros; exfalso; omega) | (simp_all; done) | (intros; simp_all; done) | (rw [Bool.eq_iff_iff]; simp; omega))
  · have e2 := e2 (by omega)
    by_cases o50 : o = 50
    · obtain ⟨p0, p1, s0, s1⟩ := hps o50
      have q4 := (rset_run p.toNat (by omega)).any (show 2 ≤ d by omega)
      have q5 := (rset_run s.toNat (by omega)).any (show 2 ≤ d by omega)
      rw [Int.toNat_of_nonneg p0] at q4
      rw [Int.toNat_of_nonneg s0] at q5
      have l4 := set_le p.toNat (by omega)
      have l5 := set_le s.toNat (by omega)
      have z : ((o : Int) = 50) = True := by simp; omega
      have y : (o = 50) = True := by simp [o50]
      clear o50 z50 e8
      simp [L_ref09_Text, a1, a3, a4, e, z3, z, y, e2, partsN]
      repeat' (first | simp [L_ref09_Text, partsN, Lib.join, *] | (refine selB_byD (fun h => ?_) (fun h => ?_)) | (refine selB_byN (fun h => ?_) (fun h => ?_)) | (refine selB_byM (fun h => ?_) (fun h => ?_)) | (refine selB_by (fun h => ?_) (fun h => ?_)) | (refine selG_byD (fun h => ?_) (fun h => ?_)) | (refine selG_byN (fun h => ?_) (fun h => ?_)) | (refine selG_byM (fun h => ?_) (fun h => ?_)) | (refine selG_by (fun h => ?_) (fun h => ?_)) | (refine pick_byD (fun h => ?_) (fun h => ?_)) | (refine pick_byN (fun h => ?_) (fun h => ?_)) | (refine pick_byM (fun h => ?_) (fun h => ?_)) | (refine pick_by (fun h => ?_) (fun h => ?_)) | (refine sadd_by (by first | (simp; omega) | (simp; done) | omega) ?_) | omega | (intros; exfalso; omega) | (simp_all; done) | (intros; simp_all; done) | (rw [Bool.eq_iff_iff]; simp; omega))
    · simp [L_ref09_Text, a1, a3, a4, e, z3, z50, o50, e2, partsN]
  · have e8 := e8 (by omega)
    have e2 := e2 (by omega)
    simp [L_ref09_Text, a1, a3, a4, e, z3, z50, e8, e2, partsN]
  · have e8 := e8 (by omega)
    have e2 := e2 (by omega)
    simp [L_ref09_Text, a1, a3, a4, e, z3, z50, e8, e2, partsN]
    repeat' (first | simp [L_ref09_Text, partsN, Lib.join, *] | (refine selB_byD (fun h => ?_) (fun h => ?_)) | (refine selB_byN (fun h => ?_) (fun h => ?_)) | (refine selB_byM (fun h => ?_) (fun h => ?_)) | (refine selB_by (fun h => ?_) (fun h => ?_)) | (refine selG_byD (fun h => ?_) (fun h => ?_)) | (refine selG_byN (fun h => ?_) (fun h => ?_)) | (refine selG_byM (fun h => ?_) (fun h => ?_)) | (refine selG_by (fun h => ?_) (fun h => ?_)) | (refine pick_byD (fun h => ?_) (fun h => ?_)) | (refine pick_byN (fun h => ?_) (fun h => ?_)) | (refine pick_byM (fun h => ?_) (fun h => ?_)) | (refine pick_by (fun h => ?_) (fun h => ?_)) | (refine sadd_by (by first | (simp; omega) | (simp; done) | omega) ?_) | omega | (intros; exfalso; omega) | (simp_all; done) | (intros; simp_all; done) | (rw [Bool.eq_iff_iff]; simp; omega))
  · have e8 := e8 (by omega)
    have e2 := e2 (by omega)
    simp [L_ref09_Text, a1, a3, a4, e, z3, z50, e8, e2, partsN]
    repeat' (first | simp [L_ref09_Text, partsN, Lib.join, *] | (refine selB_byD (fun h => ?_) (fun h => ?_)) | (refine selB_byN (fun h => ?_) (fun h => ?_)) | (refine selB_byM (fun h => ?_) (fun h => ?_)) | (refine selB_by (fun h => ?_) (fun h => ?_)) | (refine selG_byD (fun h => ?_) (fun h => ?_)) | (refine selG_byN (fun h => ?_) (fun h => ?_)) | (refine selG_byM (fun h => ?_) (fun h => ?_)) | (refine selG_by (fun h => ?_) (fun h => ?_)) | (refine pick_byD (fun h => ?_) (fun h => ?_)) | (refine pick_byN (fun h => ?_) (fun h => ?_)) | (refine pick_byM (fun h => ?_) (fun h => ?_)) | (refine pick_by (fun h => ?_) (fun h => ?_)) | (refine sadd_by (by first | (simp; omega) | (simp; done) | omega) ?_) | omega | (intros; exfalso; omega) | (simp_all; done) | (intros; simp_all; done) | (rw [Bool.eq_iff_iff]; simp; omega))
  · have e8 := e8 (by omega)
    have e2 := e2 (by omega)
    simp [L_ref09_Text, a1, a3, a4, e, z3, z50, e8, e2, partsN]
    repeat' (first | simp [L_ref09_Text, partsN, Lib.join, *] | (refine selB_byD (fun h => ?_) (fun h => ?_)) | (refine selB_byN (fun h => ?_) (fun h => ?_)) | (refine selB_byM (fun h => ?_) (fun h => ?_)) | (refine selB_by (fun h => ?_) (fun h => ?_)) | (refine selG_byD (fun h => ?_) (fun h => ?_)) | (refine selG_byN (fun h => ?_) (fun h => ?_)) | (refine selG_byM (fun h => ?_) (fun h => ?_)) | (refine selG_by (fun h => ?_) (fun h => ?_)) | (refine pick_byD (fun h => ?_) (fun h => ?_)) | (refine pick_byN (fun h => ?_) (fun h => ?_)) | (refine pick_byM (fun h => ?_) (fun h => ?_)) | (refine pick_by (fun h => ?_) (fun h => ?_)) | (refine sadd_by (by first | (simp; omega) | (simp; done) | omega) ?_) | omega | (intros; exfalso; omega) | (simp_all; done) | (intros; simp_all; done) | (rw [Bool.eq_iff_iff]; simp; omega))
end Go.Lev.Seat


namespace Go.Lev.Seat
open Go Go.Lev
set_option linter.unusedSimpArgs false
set_option linter.unusedVariables false
set_option maxHeartbeats 2000000
def rightI (op rd r1 r2 imm : Int) (aq rl : Bool) (p s : Int) : Bool := decide (1 ≤ op ∧ op ≤ 75) && rightC op.toNat rd r1 r2 imm aq rl p s
theorem right_any (op rd r1 r2 imm : Int) (aq rl : Bool) (p s : Int) (hi : i64 imm) : Run 9 n_encode_Right [instV op rd r1 r2 imm aq rl p s] (.bool (rightI op rd r1 r2 imm aq rl p s)) := by
  by_cases h : 1 ≤ op ∧ op ≤ 75
  · have e : ((op.toNat : Nat) : Int) = op := Int.toNat_of_nonneg (by omega)
    have := right_run op.toNat (by omega) rd r1 r2 imm p s aq rl hi.1 hi.2
    rw [e, right_C] at this
    simpa [rightI, h] using this
  · have ho : op < 1 ∨ 75 < op := by omega
    have hR : rightI op rd r1 r2 imm aq rl p s = false := by simp [rightI]; intro a b; omega
    rw [hR]
    have him : Run 3 n_encode_immediate [instV op rd r1 r2 imm aq rl p s] (.tuple #[.int .u32 0, .bool (decide (imm = 0))]) := by
      refine Run.text (F := L_encode_immediate) (fun _ _ => rfl) rfl (by simp [inst_sc]) (by simp [L_encode_immediate]) rfl fun d hd => ?_
      have hs := (shift_out op ho).any (show 1 ≤ d by omega)
      have hf := (form_out op ho).any (show 2 ≤ d by omega)
      simp [L_encode_immediate, instV, hs, hf]
    refine Run.text (F := L_encode_Right) (fun _ _ => rfl) rfl (by simp [inst_sc]) (by simp [L_encode_Right]) rfl fun d hd => ?_
    have hs := (sort_out op ho).any (show 1 ≤ d by omega)
    have hi := him.any (show 3 ≤ d by omega)
    have hl : ∀ X : Heap, rdN ({ cells := (instV op rd r1 r2 imm aq rl p s).cells.toList } :: X) ⟨0, 0, some 0⟩ 9 = some (instV op rd r1 r2 imm aq rl p s).cells.toList := fun X => rfl
    have hv : Value.agg (instV op rd r1 r2 imm aq rl p s).cells = instV op rd r1 r2 imm aq rl p s := rfl
    have hc0 : rd1 [{ cells := (instV op rd r1 r2 imm aq rl p s).cells.toList }] ⟨0, 0, some 0⟩ = some (.int .i64 op) := rfl
    generalize instV op rd r1 r2 imm aq rl p s = V at hl hv hi hc0
    simp at hc0
    simp [L_encode_Right, hl, hv, hi, hs, hc0]
theorem rright_any (op rd r1 r2 imm : Int) (aq rl : Bool) (p s : Int) (hop : i64 op) : Run 10 n_ref07_Right [instV op rd r1 r2 imm aq rl p s] (.bool (rightI op rd r1 r2 imm aq rl p s)) := by
  by_cases h : 1 ≤ op ∧ op ≤ 75
  · have e : ((op.toNat : Nat) : Int) = op := Int.toNat_of_nonneg (by omega)
    have := rright_run op.toNat (by omega) rd r1 r2 imm p s aq rl
    rw [e] at this
    simpa [rightI, h] using this
  · have ho : op < 1 ∨ 75 < op := by omega
    have hR : rightI op rd r1 r2 imm aq rl p s = false := by simp [rightI]; intro a b; omega
    rw [hR]
    refine Run.text (F := L_ref07_Right) (fun _ _ => rfl) rfl (by simp [inst_sc]) (by simp [L_ref07_Right]) rfl fun d hd => ?_
    have hs := (rsort_out op ho hop.2).any (show 1 ≤ d by omega)
    simp [L_ref07_Right, instV, hs]
/-- What being right says. -/
theorem right_says {op rd r1 r2 imm : Int} {aq rl : Bool} {p s : Int} (h : rightI op rd r1 r2 imm aq rl p s = true) : 1 ≤ op ∧ op ≤ 75 ∧ i64 rd ∧ i64 r1 ∧ i64 r2 ∧ (op.toNat = 50 → 0 ≤ p ∧ p ≤ 15 ∧ 0 ≤ s ∧ s ≤ 15) := by
  simp only [rightI, rightC, Bool.and_eq_true, decide_eq_true_eq, regsB] at h
  obtain ⟨⟨h1, h2⟩, ⟨⟨⟨_, ⟨⟨⟨⟨⟨a, b⟩, c⟩, d⟩, e⟩, f⟩⟩, _⟩, _⟩, g⟩ := h
  refine ⟨h1, h2, ⟨by omega, by omega⟩, ⟨by omega, by omega⟩, ⟨by omega, by omega⟩, fun h50 => ?_⟩
  simp [setsB, h50] at g
  omega
def textI (op rd r1 r2 imm : Int) (aq rl : Bool) (p s : Int) : List UInt8 := textN op.toNat rd r1 r2 imm aq rl p s
theorem text_any (op rd r1 r2 imm : Int) (aq rl : Bool) (p s : Int) (hi : i64 imm) (h : rightI op rd r1 r2 imm aq rl p s = true) : Run 9 n_show_text [instV op rd r1 r2 imm aq rl p s] (strV (textI op rd r1 r2 imm aq rl p s)) := by
  obtain ⟨h1, h2, h3, h4, h5, h6⟩ := right_says h
  have e : ((op.toNat : Nat) : Int) = op := Int.toNat_of_nonneg (by omega)
  have := text_run op.toNat (by omega) (by omega) rd r1 r2 imm p s aq rl h3 h4 h5 hi h6
  rw [e] at this
  exact this
theorem rtext_any (op rd r1 r2 imm : Int) (aq rl : Bool) (p s : Int) (hi : i64 imm) (h : rightI op rd r1 r2 imm aq rl p s = true) : Run 9 n_ref09_Text [instV op rd r1 r2 imm aq rl p s] (strV (textI op rd r1 r2 imm aq rl p s)) := by
  obtain ⟨h1, h2, h3, h4, h5, h6⟩ := right_says h
  have e : ((op.toNat : Nat) : Int) = op := Int.toNat_of_nonneg (by omega)
  have := rtext_run op.toNat (by omega) (by omega) rd r1 r2 imm p s aq rl h3 h4 h5 hi h6
  rw [e] at this
  exact this
def showT (op rd r1 r2 imm : Int) (aq rl : Bool) (p s : Int) : Value := if rightI op rd r1 r2 imm aq rl p s then .tuple #[strV (textI op rd r1 r2 imm aq rl p s), .int .i64 0] else .tuple #[strV [], .int .i64 1]
theorem showText_run (op rd r1 r2 imm : Int) (aq rl : Bool) (p s : Int) (hi : i64 imm) : Run 10 n_show_Text [instV op rd r1 r2 imm aq rl p s] (showT op rd r1 r2 imm aq rl p s) := by
  refine Run.text (F := L_show_Text) (fun _ _ => rfl) rfl (by simp [inst_sc]) (by simp [L_show_Text]) (by unfold showT; split <;> rfl) fun d hd => ?_
  have hR := (right_any op rd r1 r2 imm aq rl p s hi).any hd
  have hT := fun h => (text_any op rd r1 r2 imm aq rl p s hi h).any hd
  have hl : ∀ X : Heap, rdN ({ cells := (instV op rd r1 r2 imm aq rl p s).cells.toList } :: X) ⟨0, 0, some 0⟩ 9 = some (instV op rd r1 r2 imm aq rl p s).cells.toList := fun X => rfl
  have hv : Value.agg (instV op rd r1 r2 imm aq rl p s).cells = instV op rd r1 r2 imm aq rl p s := rfl
  unfold showT
  generalize instV op rd r1 r2 imm aq rl p s = V at hl hv hR hT
  cases hb : rightI op rd r1 r2 imm aq rl p s with
  | false =>
    rw [hb] at hR
    simp [L_show_Text, hl, hv, hR]
  | true =>
    rw [hb] at hR
    have hT := hT hb
    simp [L_show_Text, hl, hv, hR, hT]
theorem alive_any : Run 20 n_law09_alive [] (.bool true) := Run.closed (F := L_law09_alive) (d0 := 19) (fun _ _ => rfl) rfl (by kernel_rfl)
theorem texts_run (op rd r1 r2 imm : Int) (aq rl : Bool) (p s : Int) (hop : i64 op) (hi : i64 imm) : Run 21 n_law09_ShowTexts [instV op rd r1 r2 imm aq rl p s] (.bool true) := by
  refine Run.text (F := L_law09_ShowTexts) (fun _ _ => rfl) rfl (by simp [inst_sc]) (by simp [L_law09_ShowTexts]) rfl fun d hd => ?_
  have hA := alive_any.any hd
  have hR := (rright_any op rd r1 r2 imm aq rl p s hop).any (show 10 ≤ d by omega)
  have hS := (showText_run op rd r1 r2 imm aq rl p s hi).any (show 10 ≤ d by omega)
  have hT := fun h => (rtext_any op rd r1 r2 imm aq rl p s hi h).any (show 9 ≤ d by omega)
  have hl : ∀ X : Heap, rdN ({ cells := (instV op rd r1 r2 imm aq rl p s).cells.toList } :: X) ⟨0, 0, some 0⟩ 9 = some (instV op rd r1 r2 imm aq rl p s).cells.toList := fun X => rfl
  have hv : Value.agg (instV op rd r1 r2 imm aq rl p s).cells = instV op rd r1 r2 imm aq rl p s := rfl
  unfold showT at hS
  generalize instV op rd r1 r2 imm aq rl p s = V at hl hv hR hT hS
  cases hb : rightI op rd r1 r2 imm aq rl p s with
  | false =>
    rw [hb] at hR hS
    simp at hS
    simp [L_law09_ShowTexts, hA, hl, hv, hR, hS]
  | true =>
    rw [hb] at hR hS
    have hT := hT hb
    simp at hS
    simp [L_law09_ShowTexts, hA, hl, hv, hR, hT, hS]
end Go.Lev.Seat

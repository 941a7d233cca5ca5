/- Suffixes, names' operations. -/
import Derived.Test.YtcaogimdpcaohaaGreatDoorHe
import Derived.Test.YtcaogimdpcaohaaGreatDoorLvF
set_option linter.unusedVariables false
set_option linter.unusedSimpArgs false
set_option linter.constructorNameAsVariable false

namespace Go.Lev.Seat
open Go Go.Lev
set_option linter.unusedSimpArgs false
set_option linter.unusedVariables false
set_option maxHeartbeats 2000000
theorem hasPre_any (l p : List UInt8) : Run 2 n_strings_HasPrefix [strV l, strV p] (.bool (hasPre l p)) := by
  refine Run.text (F := L_strings_HasPrefix) (fun _ _ => rfl) rfl rfl (by simp [L_strings_HasPrefix]) rfl fun d hd => ?_
  obtain ⟨e, rfl⟩ : ∃ e, d = e + 1 := ⟨d - 1, by omega⟩
  have hp := fun fl H => pre_run K e fl l p H
  simp [L_strings_HasPrefix, hp]
def hasSuf (l p : List UInt8) : Bool := decide (p.length ≤ l.length) && decide (l.drop (l.length - p.length) = p)
theorem hasSuf_app (l p : List UInt8) : hasSuf (l ++ p) p = true := by simp [hasSuf]
theorem hasSuf_iff (l p : List UInt8) : hasSuf l p = true ↔ ∃ r, l = r ++ p := by
  constructor
  · intro h
    simp [hasSuf] at h
    exact ⟨l.take (l.length - p.length), by have := List.take_append_drop (l.length - p.length) l; rw [h.2] at this; exact this.symm⟩
  · rintro ⟨r, rfl⟩
    exact hasSuf_app r p
theorem suf_any (l p : List UInt8) (hl : l.length ≤ 1000000000) : Run 1 n_stringslite_HasSuffix [strV l, strV p] (.bool (hasSuf l p)) := by
  refine Run.text (F := L_stringslite_HasSuffix) (fun _ _ => rfl) rfl rfl (by simp [L_stringslite_HasSuffix]) rfl fun d hd => ?_
  by_cases h : p.length ≤ l.length
  · have e : (p.length : Int) ≤ l.length := by omega
    have w : IntKind.i64.wrap ((l.length : Int) - p.length) = ((l.length - p.length : Nat) : Int) := by rw [wrap_i64_id] <;> omega
    have s := slcTV_drop l .i64 (l.length - p.length) (by omega)
    simp [L_stringslite_HasSuffix, e, w, s, hasSuf, h]
  · have e : ¬ (p.length : Int) ≤ l.length := by omega
    simp [L_stringslite_HasSuffix, e, hasSuf, h]
def trimSuf (l p : List UInt8) : List UInt8 := if hasSuf l p then l.take (l.length - p.length) else l
theorem trimSuf_app (l p : List UInt8) : trimSuf (l ++ p) p = l := by simp [trimSuf, hasSuf_app]
theorem trim0_any (l p : List UInt8) (hl : l.length ≤ 1000000000) : Run 2 n_stringslite_TrimSuffix [strV l, strV p] (strV (trimSuf l p)) := by
  refine Run.text (F := L_stringslite_TrimSuffix) (fun _ _ => rfl) rfl rfl (by simp [L_stringslite_TrimSuffix]) rfl fun d hd => ?_
  have hs := (suf_any l p hl).any hd
  cases h : hasSuf l p with
  | true =>
    have h1 : p.length ≤ l.length := by simp [hasSuf] at h; exact h.1
    have w : IntKind.i64.wrap ((l.length : Int) - p.length) = ((l.length - p.length : Nat) : Int) := by rw [wrap_i64_id] <;> omega
    have s := slcTV_take l .i64 (l.length - p.length) (by omega)
    simp [L_stringslite_TrimSuffix, hs, h, w, s, trimSuf]
  | false => simp [L_stringslite_TrimSuffix, hs, h, trimSuf]
theorem trim_any (l p : List UInt8) (hl : l.length ≤ 1000000000) : Run 3 n_strings_TrimSuffix [strV l, strV p] (strV (trimSuf l p)) := by
  refine Run.text (F := L_strings_TrimSuffix) (fun _ _ => rfl) rfl rfl (by simp [L_strings_TrimSuffix]) rfl fun d hd => ?_
  have hs := (trim0_any l p hl).any hd
  simp [L_strings_TrimSuffix, hs]
def cutSuf (l p : List UInt8) : Value := .tuple #[strV (trimSuf l p), .bool (hasSuf l p)]
theorem cut0_any (l p : List UInt8) (hl : l.length ≤ 1000000000) : Run 2 n_stringslite_CutSuffix [strV l, strV p] (cutSuf l p) := by
  refine Run.text (F := L_stringslite_CutSuffix) (fun _ _ => rfl) rfl rfl (by simp [L_stringslite_CutSuffix]) rfl fun d hd => ?_
  have hs := (suf_any l p hl).any hd
  cases h : hasSuf l p with
  | true =>
    have h1 : p.length ≤ l.length := by simp [hasSuf] at h; exact h.1
    have w : IntKind.i64.wrap ((l.length : Int) - p.length) = ((l.length - p.length : Nat) : Int) := by rw [wrap_i64_id] <;> omega
    have s := slcTV_take l .i64 (l.length - p.length) (by omega)
    simp [L_stringslite_CutSuffix, hs, h, w, s, cutSuf, trimSuf]
  | false => simp [L_stringslite_CutSuffix, hs, h, cutSuf, trimSuf]
theorem cutSuf_any (l p : List UInt8) (hl : l.length ≤ 1000000000) : Run 3 n_strings_CutSuffix [strV l, strV p] (cutSuf l p) := by
  refine Run.text (F := L_strings_CutSuffix) (fun _ _ => rfl) rfl rfl (by simp [L_strings_CutSuffix]) rfl fun d hd => ?_
  have hs := (cut0_any l p hl).any hd
  simp [L_strings_CutSuffix, hs, cutSuf]
/-- A name's operation. -/
def byName (l : List UInt8) : Nat := (nameL.findIdx? (fun x => decide (x = l))).getD 0
theorem byName_any (l : List UInt8) : Run 7 n_ops_ByName [strV l] (.int .i64 (byName l : Nat)) := by
  refine Run.text (F := L_ops_ByName) (fun _ _ => rfl) rfl rfl (by simp [L_ops_ByName]) rfl fun d hd => ?_
  have hn := (Run.closed (d0 := 2) (F := L_ops_names) (f := n_ops_names) (args := []) (v := .agg (nameL.map strV).toArray) (fun _ _ => rfl) rfl (by kernel_rfl)).any (show 3 ≤ d by omega)
  show wp P0 (T K d) 0 K _ _ _
  refine lwp_midH [] (fun env => evO env (.tmp 0) = strV l) (by simp) fun env a0 => ?_
  refine lwp_midE (fun env _ => nameL.findIdx? (fun x => decide (x = l)) = none) ?_ ?_
  · refine lwp_midH [] (fun env => evO env (.tmp 0) = strV l ∧ evO env (.tmp 5) = .agg (nameL.map strV).toArray ∧ evO env (.tmp 6) = .int .i64 0) (by simp [a0, hn]) ?_
    clear a0
    rintro env ⟨a0, a5, a6⟩
    refine lwp_block_of (lwp_loopE (fun m env H => ∃ i : Nat, i + m = 76 ∧ (∀ j x, j < i → nameL[j]? = some x → x ≠ l) ∧ evO env (.tmp 0) = strV l ∧ evO env (.tmp 5) = .agg (nameL.map strV).toArray ∧ evO env (.tmp 6) = .int .i64 i)
      76 ?_ ⟨0, by omega, fun j x hj => by omega, a0, a5, a6⟩ (by decide))
    clear a0 a5 a6
    rintro m env H ⟨i, hi, hj, a0, a5, a6⟩ hm
    by_cases hin : i < 76
    · have e1 : (i : Int) < 76 := by omega
      have hg : nameL[i]? = some (nameN i) := by
        have hl : i < nameL.length := by rw [name_len]; exact hin
        rw [List.getElem?_eq_getElem hl]
        simp [nameN, List.getD, hl]
      have e4 : IntKind.i64.wrap ((i : Int) + 1) = ((i + 1 : Nat) : Int) := by rw [wrap_i64_id] <;> omega
      by_cases hx : nameN i = l
      · have hr : byName l = i := by
          have : nameL.findIdx? (fun x => decide (x = l)) = some i := by
            rw [List.findIdx?_eq_some_iff_getElem]
            have hl : i < nameL.length := by rw [name_len]; exact hin
            refine ⟨hl, ?_, fun j hj2 => ?_⟩
            · rw [List.getElem?_eq_getElem hl] at hg
              simp only [Option.some.injEq] at hg
              simpa [hg] using hx
            · have hjl : j < nameL.length := by omega
              have := hj j nameL[j] hj2 (List.getElem?_eq_getElem hjl)
              simpa using this
          rw [byName, this]
          rfl
        simp [a0, a5, a6, e1, hg, hx, L_ops_ByName, hr]
      · simp [a0, a5, a6, e1, hg, hx, e4]
        refine ⟨m - 1, by omega, i + 1, by omega, fun j x hj2 hx2 => ?_, by simp⟩
        rcases Nat.lt_succ_iff_lt_or_eq.1 hj2 with h | rfl
        · exact hj j x h hx2
        · rw [hg] at hx2
          simp only [Option.some.injEq] at hx2
          rw [← hx2]
          exact hx
    · have e1 : ¬ (i : Int) < 76 := by omega
      simp [a0, a5, a6, e1]
      intro x hx
      obtain ⟨j, hj2, rfl⟩ := List.getElem_of_mem hx
      exact hj j _ (by rw [name_len] at hj2; omega) (List.getElem?_eq_getElem hj2)
  clear a0
  rintro env H hnone
  simp [L_ops_ByName, byName, hnone]
end Go.Lev.Seat


namespace Go.Lev.Seat
open Go Go.Lev
set_option linter.unusedSimpArgs false
set_option linter.unusedVariables false
set_option maxHeartbeats 2000000
def sfx (n : Nat) : List UInt8 := [[46, 97, 113, 114, 108], [46, 97, 113], [46, 114, 108]].getD n []
/-- A name's operation, its annotations. -/
def opOf (l : List UInt8) : Nat × Bool × Bool :=
  if hasSuf l [46, 97, 113, 114, 108] then (byName (trimSuf l [46, 97, 113, 114, 108]), true, true) else
  if hasSuf l [46, 97, 113] then (byName (trimSuf l [46, 97, 113]), true, false) else
  if hasSuf l [46, 114, 108] then (byName (trimSuf l [46, 114, 108]), false, true) else (byName l, false, false)
theorem op_any (l : List UInt8) (hl : l.length ≤ 1000000000) : Run 8 n_show_operation [strV l] (instV (opOf l).1 0 0 0 0 (opOf l).2.1 (opOf l).2.2 0 0) := by
  refine Run.text (F := L_show_operation) (fun _ _ => rfl) rfl rfl (by simp [L_show_operation]) (by simp [instV]) fun d hd => ?_
  have c1 := (cutSuf_any l [46, 97, 113, 114, 108] hl).any (show 3 ≤ d by omega)
  have c2 := (cutSuf_any l [46, 97, 113] hl).any (show 3 ≤ d by omega)
  have c3 := (cutSuf_any l [46, 114, 108] hl).any (show 3 ≤ d by omega)
  have b := fun x => (byName_any x).any hd
  simp only [cutSuf] at c1 c2 c3
  show wp P0 (T K d) 0 K _ _ _
  refine lwp_midH [{ cells := [.int .i64 0, .int .i64 0, .int .i64 0, .int .i64 0, .int .i64 0, .bool false, .bool false, .int .i64 0, .int .i64 0] }] (fun env => evO env (.tmp 0) = strV l ∧ evO env (.tmp 2) = .pointer (some ⟨0, 0, some 0⟩)) (by simp) ?_
  rintro env ⟨a0, a2⟩
  refine lwp_midE (fun env H => evO env (.tmp 0) = strV l ∧ evO env (.tmp 2) = .pointer (some ⟨0, 0, some 0⟩) ∧ (hasSuf l [46, 97, 113, 114, 108] = false ∧ hasSuf l [46, 97, 113] = false ∧ hasSuf l [46, 114, 108] = false) ∧ ∃ X, H = { cells := [.int .i64 0, .int .i64 0, .int .i64 0, .int .i64 0, .int .i64 0, .bool false, .bool false, .int .i64 0, .int .i64 0] } :: X) ?_ ?_
  · refine lwp_midH [{ cells := [.int .i64 0, .int .i64 0, .int .i64 0, .int .i64 0, .int .i64 0, .bool false, .bool false, .int .i64 0, .int .i64 0] }] (fun env => evO env (.tmp 0) = strV l ∧ evO env (.tmp 2) = .pointer (some ⟨0, 0, some 0⟩) ∧ evO env (.tmp 10) = .agg #[strV [46, 97, 113, 114, 108], .bool true, .bool true, strV [46, 97, 113], .bool true, .bool false, strV [46, 114, 108], .bool false, .bool true] ∧ evO env (.tmp 11) = .int .i64 0) (by simp [a0, a2, fillV, fillL, setSeg]) ?_
    clear a0 a2
    rintro env ⟨a0, a2, a10, a11⟩
    refine lwp_block_of (loop_unr 4 (by decide) ?_)
    cases s1 : hasSuf l [46, 97, 113, 114, 108] with
    | true => simp [a0, a2, a10, a11, c1, s1, b, fillV, fillL, setSeg, L_show_operation, opOf, instV]
    | false =>
    cases s2 : hasSuf l [46, 97, 113] with
    | true => simp [a0, a2, a10, a11, c1, c2, s1, s2, b, fillV, fillL, setSeg, L_show_operation, opOf, instV]
    | false =>
    cases s3 : hasSuf l [46, 114, 108] with
    | true => simp [a0, a2, a10, a11, c1, c2, c3, s1, s2, s3, b, fillV, fillL, setSeg, L_show_operation, opOf, instV]
    | false => simp [a0, a2, a10, a11, c1, c2, c3, s1, s2, s3, b, fillV, fillL, setSeg, L_show_operation, opOf, instV]
  clear a0 a2
  rintro env _ ⟨a0, a2, ⟨s1, s2, s3⟩, X, rfl⟩
  simp [a0, a2, s1, s2, s3, b, fillV, fillL, setSeg, L_show_operation, opOf, instV]
/-- A text's set. -/
def asSetN (l : List UInt8) : Nat := (if Lib.contains l [105] then 8 else 0) + (if Lib.contains l [111] then 4 else 0) + (if Lib.contains l [114] then 2 else 0) + (if Lib.contains l [119] then 1 else 0)
theorem has_row (l sub : List UInt8) (h : l.length < 4294967281) : Run 0 n_strings_Contains [strV l, strV sub] (.bool (Lib.contains l sub)) := fun d fl H _ => tab_base (by
  show scRow gHas fl [strV l, strV sub] H = _
  simp [scRow, gHas, h])
theorem asSet_any (l : List UInt8) (hl : l.length ≤ 1000000000) : Run 1 n_show_asSet [strV l] (.int .i64 (asSetN l : Nat)) := by
  refine Run.text (F := L_show_asSet) (fun _ _ => rfl) rfl rfl (by simp [L_show_asSet]) rfl fun d hd => ?_
  have c1 := (has_row l [105] (by omega)).any (show 0 ≤ d by omega)
  have c2 := (has_row l [111] (by omega)).any (show 0 ≤ d by omega)
  have c3 := (has_row l [114] (by omega)).any (show 0 ≤ d by omega)
  have c4 := (has_row l [119] (by omega)).any (show 0 ≤ d by omega)
  have s1 := slcTV_seg [105, 111, 114, 119] .i64 .i64 0 1 (by omega) (by decide)
  have s2 := slcTV_seg [105, 111, 114, 119] .i64 .i64 1 2 (by omega) (by decide)
  have s3 := slcTV_seg [105, 111, 114, 119] .i64 .i64 2 3 (by omega) (by decide)
  have s4 := slcTV_seg [105, 111, 114, 119] .i64 .i64 3 4 (by omega) (by decide)
  simp at s1 s2 s3 s4
  show wp P0 (T K d) 0 K _ _ _
  refine lwp_midH [] (fun env => evO env (.tmp 0) = strV l) (by simp) fun env a0 => ?_
  refine lwp_midH [] (fun env => evO env (.tmp 0) = strV l ∧ evO env (.tmp 3) = .int .i64 0) (by simp [a0]) ?_
  clear a0
  rintro env ⟨a0, a3⟩
  refine lwp_midH [] (fun env => evO env (.tmp 3) = .int .i64 (asSetN l : Nat)) ?_ ?_
  · refine lwp_midH [] (fun env => evO env (.tmp 0) = strV l ∧ evO env (.tmp 3) = .int .i64 0 ∧ evO env (.tmp 5) = .int .i64 0) (by simp [a0, a3]) ?_
    clear a0 a3
    rintro env ⟨a0, a3, a5⟩
    refine lwp_block_of (loop_unr 5 (by decide) ?_)
    have e : IntKind.i64.wrap ((BitVec.ofInt 64 0 ||| BitVec.ofInt 64 8).toNat : Int) = 8 := by decide
    unfold asSetN
    cases t1 : Lib.contains l [105] <;> cases t2 : Lib.contains l [111] <;> cases t3 : Lib.contains l [114] <;> cases t4 : Lib.contains l [119] <;>
      (simp [a0, a3, a5, c1, c2, c3, c4, s1, s2, s3, s4, t1, t2, t3, t4] <;> first | done | decide)
  clear a0 a3
  rintro env a3
  simp [a3, L_show_asSet]
end Go.Lev.Seat


namespace Go.Lev.Seat
open Go Go.Lev
set_option linter.unusedSimpArgs false
set_option linter.unusedVariables false
set_option maxHeartbeats 2000000
/-- A text's parts. -/
def cutA : List UInt8 → List UInt8 → List (List UInt8)
  | cur, [] => [cur]
  | cur, b :: r => if b = 44 ∧ r.head? = some 32 then cur :: cutB r else if b = 40 then cur :: cutA [] r else cutA (cur ++ [b]) r
where cutB : List UInt8 → List (List UInt8)
  | [] => [[]]
  | _ :: r => cutA [] r
theorem pre_44 (l : List UInt8) : hasPre l [44, 32] = true ↔ ∃ r, l = 44 :: 32 :: r := by
  constructor
  · intro h
    simp [hasPre] at h
    match l, h with
    | a :: b :: r, h => simp at h; exact ⟨r, by rw [h.1, h.2]⟩
  · rintro ⟨r, rfl⟩
    simp [hasPre]
theorem cutA_44 (cur r : List UInt8) : cutA cur (44 :: 32 :: r) = cur :: cutA [] r := by simp [cutA, cutA.cutB]
theorem cutA_40 (cur r : List UInt8) : cutA cur (40 :: r) = cur :: cutA [] r := by simp [cutA]
theorem cutA_other (cur r : List UInt8) (b : UInt8) (h1 : ¬ hasPre (b :: r) [44, 32] = true) (h2 : b ≠ 40) : cutA cur (b :: r) = cutA (cur ++ [b]) r := by
  have : ¬ (b = 44 ∧ r.head? = some 32) := by
    rintro ⟨rfl, h⟩
    apply h1
    rw [pre_44]
    cases r with
    | nil => simp at h
    | cons x r => simp at h; exact ⟨r, by rw [h]⟩
  rw [cutA, if_neg this, if_neg h2]
def cutL (l : List UInt8) : List (List UInt8) := cutA [] l
theorem cut_any (l : List UInt8) (hl : l.length ≤ 90000) (d fl : Nat) (H : Heap) (hd : 3 ≤ d) :
    T K d n_show_cut fl [strV l] H = some (slV H.length (cutL l).length 1, H ++ slH (cutL l).length 1 ((cutL l).map strV)) := by
  obtain ⟨d, rfl⟩ : ∃ e, d = e + 1 := ⟨d - 1, by omega⟩
  refine tab_own (F := L_show_cut) rfl rfl (by simp [L_show_cut]) ?_
  show wp P0 (T K d) H.length K _ _ _
  have hp := fun x p => (hasPre_any x p).any (show 2 ≤ d by omega)
  refine lwp_midH H (fun env => evO env (.tmp 0) = strV l) (by simp) fun env a0 => ?_
  refine lwp_midH H (fun env => evO env (.tmp 0) = strV l ∧ evO env (.tmp 3) = .slice none 0 0) (by simp [a0]) ?_
  clear a0
  rintro env ⟨a0, a3⟩
  refine lwp_midH H (fun env => evO env (.tmp 0) = strV l ∧ evO env (.tmp 3) = .slice none 0 0 ∧ evO env (.tmp 4) = .int .i64 0) (by simp [a0, a3]) ?_
  clear a0 a3
  rintro env ⟨a0, a3, a4⟩
  refine lwp_midH H (fun env => evO env (.tmp 0) = strV l ∧ evO env (.tmp 3) = .slice none 0 0 ∧ evO env (.tmp 4) = .int .i64 0) (by simp [a0, a3, a4]) ?_
  clear a0 a3 a4
  rintro env ⟨a0, a3, a4⟩
  refine lwp_midE (fun env H' => ∃ v, evO env (.tmp 3) = v ∧ accV 1 H.length H' v ((cutL l).map strV) (cutL l).length) ?_ ?_
  · refine lwp_midH H (fun env => evO env (.tmp 0) = strV l ∧ evO env (.tmp 3) = .slice none 0 0 ∧ evO env (.tmp 4) = .int .i64 0 ∧ evO env (.tmp 5) = .int .i64 0) (by simp [a0, a3, a4]) ?_
    clear a0 a3 a4
    rintro env ⟨a0, a3, a4, a5⟩
    refine lwp_block_of (lwp_loopE (fun m env H' => ∃ (i at' : Nat) (parts : List (List UInt8)), i + m = l.length + 1 ∧ 0 < m ∧ parts.length ≤ i ∧ H.length ≤ H'.length ∧ evO env (.tmp 0) = strV l ∧ evO env (.tmp 4) = .int .i64 at' ∧ evO env (.tmp 5) = .int .i64 i ∧
        accV 1 H.length H' (evO env (.tmp 3)) (parts.map strV) parts.length ∧
        ((at' ≤ i ∧ parts ++ cutA ((l.drop at').take (i - at')) (l.drop i) = cutL l) ∨ (at' = i + 1 ∧ l[i]? = some 32 ∧ parts ++ cutA [] (l.drop at') = cutL l)))
      (l.length + 1) ?_ ⟨0, 0, [], by omega, by omega, by simp, Nat.le_refl _, a0, a4, a5, by rw [a3]; exact accV_nil _ _ _, .inl ⟨by omega, by simp [cutL]⟩⟩ (by have : K = 100000 := rfl; omega))
    clear a0 a3 a4 a5
    rintro m env H' ⟨i, at', parts, hi, hm0, hpl, hHl, a0, a4, a5, hacc, hcase⟩ hm
    have e1 : (i : Int) ≤ (l.length : Int) := by omega
    by_cases hil : i = l.length
    · rcases hcase with ⟨hat, hpc⟩ | ⟨_, h32, _⟩
      · have e2 : (i : Int) = (l.length : Int) := by omega
        have s1 := slcTV_drop l .i64 at' (by omega)
        obtain ⟨v', H2, e, hacc', _, hle⟩ := app_str (s := ⟨(l.drop at').toArray⟩) hacc (Nat.le_refl _) hHl (by omega)
        have hz : parts ++ [l.drop at'] = cutL l := by
          rw [← hpc, hil]
          simp [cutA]
          rw [List.take_of_length_le (by simp)]
        have hacc2 : accV 1 H.length H2 v' ((cutL l).map strV) (cutL l).length := by
          rw [← hz]
          simpa using hacc'
        simp [a0, a4, a5, e1, e2, s1, zeroRow, fillL, e]
        exact hacc2
      · rw [hil] at h32
        simp at h32
    · have hlt : i < l.length := by omega
      have e2 : ¬ (i : Int) = (l.length : Int) := by omega
      have s0 := slcTV_drop l .i64 i (by omega)
      have hg : l[i]? = some l[i] := List.getElem?_eq_getElem hlt
      have hdr : l.drop i = l[i] :: l.drop (i + 1) := List.drop_eq_getElem_cons hlt
      have w1 : IntKind.i64.wrap ((i : Int) + 1) = ((i + 1 : Nat) : Int) := by rw [wrap_i64_id] <;> omega
      have w2 : IntKind.i64.wrap ((i : Int) + 2) = ((i + 2 : Nat) : Int) := by rw [wrap_i64_id] <;> omega
      cases hpr : hasPre (l.drop i) [44, 32] with
      | true =>
        obtain ⟨r, hr⟩ := (pre_44 _).1 hpr
        have h44 : l[i] = 44 := by rw [hdr] at hr; exact (List.cons.inj hr).1
        have hr1 : l.drop (i + 1) = 32 :: r := by rw [hdr] at hr; exact (List.cons.inj hr).2
        have hr2 : l.drop (i + 2) = r := by rw [← List.drop_drop (i := 1) (j := i + 1) , hr1]; rfl
        have h32 : l[i + 1]? = some 32 := by
          have : (l.drop (i + 1))[0]? = some 32 := by rw [hr1]; rfl
          simpa using this
        rcases hcase with ⟨hat, hpc⟩ | ⟨_, h32', _⟩
        · have s1 := slcTV_seg l .i64 .i64 at' i hat (by omega)
          obtain ⟨v', H2, e, hacc', _, hle⟩ := app_str (s := ⟨((l.drop at').take (i - at')).toArray⟩) hacc (Nat.le_refl _) hHl (by omega)
          simp [a0, a4, a5, e1, e2, s0, hp, hpr, s1, zeroRow, fillL, e, w1, w2]
          refine ⟨m - 1, by omega, i + 1, by omega, by omega, i + 2, parts ++ [(l.drop at').take (i - at')], by simp; omega, by omega, by simp, by simp, by simpa using hacc', .inr ⟨by omega, h32, ?_⟩⟩
          rw [← hpc, hr2, hr, cutA_44]
          simp
        · rw [hg, h44] at h32'
          simp at h32'
      | false =>
        by_cases h40 : l[i] = 40
        · have hb : l[i].toNat = 40 := by rw [h40]; rfl
          rcases hcase with ⟨hat, hpc⟩ | ⟨_, h32', _⟩
          · have s1 := slcTV_seg l .i64 .i64 at' i hat (by omega)
            obtain ⟨v', H2, e, hacc', _, hle⟩ := app_str (s := ⟨((l.drop at').take (i - at')).toArray⟩) hacc (Nat.le_refl _) hHl (by omega)
            simp [a0, a4, a5, e1, e2, s0, hp, hpr, s1, hg, h40, zeroRow, fillL, e, w1]
            refine ⟨m - 1, by omega, i + 1, by omega, by omega, i + 1, parts ++ [(l.drop at').take (i - at')], by simp; omega, by omega, by simp, by simp, by simpa using hacc', .inl ⟨by omega, ?_⟩⟩
            rw [← hpc, hdr, h40, cutA_40]
            simp
          · rw [hg, h40] at h32'
            simp at h32'
        · have hb : ¬ (l[i].toNat : Int) = 40 := fun h => h40 (UInt8.toNat_inj.1 (by simpa using Int.ofNat.inj h))
          simp [a0, a4, a5, e1, e2, s0, hp, hpr, hg, hb, w1]
          refine ⟨m - 1, by omega, i + 1, by omega, by omega, at', parts, by omega, hHl, by simp, by simp, hacc, ?_⟩
          rcases hcase with ⟨hat, hpc⟩ | ⟨hat, h32', hpc⟩
          · refine .inl ⟨by omega, ?_⟩
            rw [← hpc, hdr, cutA_other _ _ _ (by rw [← hdr, hpr]; simp) h40]
            congr 2
            have e5 : i + 1 - at' = (i - at') + 1 := by omega
            rw [e5, List.take_add_one]
            congr 1
            rw [List.getElem?_drop]
            have e6 : at' + (i - at') = i := by omega
            rw [e6, hg]
            rfl
          · refine .inl ⟨by omega, ?_⟩
            subst hat
            rw [← hpc]
            simp
  clear a0 a3 a4
  rintro env H' ⟨v, rfl, hacc⟩
  have ho := accV_own hacc (by simp)
  simp [L_show_cut]
  exact ho
end Go.Lev.Seat


namespace Go.Lev.Seat
open Go Go.Lev
set_option linter.unusedSimpArgs false
set_option linter.unusedVariables false
set_option maxHeartbeats 4000000
theorem reg_any (l : List UInt8) (hl : l.length ≤ 1000) : Run 4 n_show_Register [strV l] (optT (reg l)) := fun d fl H hd => by
  obtain ⟨e, rfl⟩ : ∃ e, d = e + 4 := ⟨d - 4, by omega⟩
  exact reg_run K e fl l H hl
theorem num_any (l : List UInt8) (hl : l.length ≤ 1000) : Run 1 n_show_Number [strV l] (optT (num l)) := fun d fl H hd => by
  obtain ⟨e, rfl⟩ : ∃ e, d = e + 1 := ⟨d - 1, by omega⟩
  exact num_run K e fl l H (by omega)
def regD (l : List UInt8) : Int := (reg l).getD 0
def numD (l : List UInt8) : Int := (num l).getD 0
theorem guess1_run (L : List (List UInt8)) (H : Heap) (p : Addr) (b o g n : Nat) (k : Nat) (d fl : Nat) (hd : 5 ≤ d) (hp : rd1 H p = some (.slice (some ⟨b, o, some g⟩) n 1)) (hr : rdN H ⟨b, o, some g⟩ n = some (L.map strV)) (hn : n = L.length) (x : List UInt8) (hk : L[k]? = some x) (hs : x.length ≤ 1000) :
    T K d n_show_guess_1 fl [.int .i64 k, .pointer (some p)] H = some (.int .i64 (regD x), H) := by
  obtain ⟨d, rfl⟩ : ∃ e, d = e + 1 := ⟨d - 1, by omega⟩
  refine tab_scalar (F := L_show_guess_1) rfl rfl (by simp [L_show_guess_1]) rfl ?_
  show wp P0 (T K d) H.length K _ _ _
  have hkl : k < L.length := (List.getElem?_eq_some_iff.1 hk).1
  have hg : (L.map strV)[k]? = some (strV x) := by simp [hk]
  have h1 := rd1_part hr hg
  have hR := (reg_any x hs).any (show 4 ≤ d by omega)
  have hz : (k : Int) < (n : Int) := by omega
  have hreg : regD x = (reg x).getD 0 := rfl
  cases hx : reg x with
  | none =>
    rw [hx] at hR hreg
    rw [hreg]
    simp [L_show_guess_1, hp, hz, h1, hR, optT]
  | some v =>
    rw [hx] at hR hreg
    rw [hreg]
    simp [L_show_guess_1, hp, hz, h1, hR, optT]
theorem guess2_run (L : List (List UInt8)) (H : Heap) (p : Addr) (b o g n : Nat) (k : Nat) (d fl : Nat) (hd : 2 ≤ d) (hp : rd1 H p = some (.slice (some ⟨b, o, some g⟩) n 1)) (hr : rdN H ⟨b, o, some g⟩ n = some (L.map strV)) (hn : n = L.length) (x : List UInt8) (hk : L[k]? = some x) (hs : x.length ≤ 1000) :
    T K d n_show_guess_2 fl [.int .i64 k, .pointer (some p)] H = some (.int .i64 (numD x), H) := by
  obtain ⟨d, rfl⟩ : ∃ e, d = e + 1 := ⟨d - 1, by omega⟩
  refine tab_scalar (F := L_show_guess_2) rfl rfl (by simp [L_show_guess_2]) rfl ?_
  show wp P0 (T K d) H.length K _ _ _
  have hkl : k < L.length := (List.getElem?_eq_some_iff.1 hk).1
  have hg : (L.map strV)[k]? = some (strV x) := by simp [hk]
  have h1 := rd1_part hr hg
  have hR := (num_any x hs).any (show 1 ≤ d by omega)
  have hz : (k : Int) < (n : Int) := by omega
  have hreg : numD x = (num x).getD 0 := rfl
  cases hx : num x with
  | none =>
    rw [hx] at hR hreg
    rw [hreg]
    simp [L_show_guess_2, hp, hz, h1, hR, optT]
  | some v =>
    rw [hx] at hR hreg
    rw [hreg]
    simp [L_show_guess_2, hp, hz, h1, hR, optT]
theorem cutrow (l sep : List UInt8) (h : l.length < 4294967281) : Run 0 n_strings_Cut [strV l, strV sep] (.tuple #[strV (Lib.cut l sep).1, strV (Lib.cut l sep).2.1, .bool (Lib.cut l sep).2.2]) := fun d fl H _ => tab_base (by
  show scRow gCut fl [strV l, strV sep] H = _
  simp [scRow, gCut, h])
theorem byName_lt (l : List UInt8) : byName l < 76 := by
  unfold byName
  cases h : nameL.findIdx? (fun x => decide (x = l)) with
  | none => simp
  | some i =>
    rw [List.findIdx?_eq_some_iff_getElem] at h
    obtain ⟨h1, _⟩ := h
    rw [name_len] at h1
    simpa using h1
theorem opOf_lt (l : List UInt8) : (opOf l).1 < 76 := by
  unfold opOf
  repeat' split
  all_goals exact byName_lt _
/-- The instruction of an operation's parts. -/
def guessL (o : Nat) (aq rl : Bool) (L : List (List UInt8)) : Value :=
  let p0 : Int := if o = 51 then 3 else 0
  let r := fun (k : Nat) => regD (L[k]?.getD [])
  let m := fun (k : Nat) => numD (L[k]?.getD [])
  if sortN o = 1 then instV o (r 0) 0 0 (m 1) aq rl p0 p0 else
  if sortN o = 2 then (if o = 4 then instV o (r 0) (r 1) 0 (m 2) aq rl p0 p0 else instV o (r 0) 0 0 (m 1) aq rl p0 p0) else
  if sortN o = 6 then instV o (r 0) (r 1) 0 (m 2) aq rl p0 p0 else
  if sortN o = 3 then instV o 0 (r 0) (r 1) (m 2) aq rl p0 p0 else
  if sortN o = 4 then instV o (r 0) (r 2) 0 (m 1) aq rl p0 p0 else
  if sortN o = 5 then instV o 0 (r 2) (r 0) (m 1) aq rl p0 p0 else
  if sortN o = 7 then instV o (r 0) (r 1) (r 2) 0 aq rl p0 p0 else
  if sortN o = 8 then (if o = 50 then instV o 0 0 0 0 aq rl (asSetN (L[0]?.getD []) : Nat) (asSetN (L[1]?.getD []) : Nat) else instV o 0 0 0 0 aq rl p0 p0) else
  if sortN o = 10 then instV o (r 0) (r 2) 0 0 aq rl p0 p0 else
  if sortN o = 11 ∨ sortN o = 12 then instV o (r 0) (r 3) (r 1) 0 aq rl p0 p0 else instV o 0 0 0 0 aq rl p0 p0
def argsOf (l : List UInt8) : List (List UInt8) := cutL (trimSuf (Lib.cut l [32]).2.1 [41]) ++ [[], [], []]
def guessV (l : List UInt8) : Value := guessL (opOf (Lib.cut l [32]).1).1 (opOf (Lib.cut l [32]).1).2.1 (opOf (Lib.cut l [32]).1).2.2 (argsOf l)
end Go.Lev.Seat

/- ref09.Read, whole. -/
import Derived.Test.YtcaogimdpcaohaaGreatDoorHi
set_option linter.unusedVariables false
set_option linter.unusedSimpArgs false
set_option linter.constructorNameAsVariable false

namespace Go.Lev.Seat
open Go Go.Lev
set_option linter.unusedSimpArgs false
set_option linter.unusedVariables false
set_option maxHeartbeats 8000000
set_option maxRecDepth 20000
theorem stepR_ok (o k n : Nat) (w : List UInt8) (st : RS) (h : i64 st.i.imm) : (stepR o k n w st).i.op = st.i.op ∧ i64 (stepR o k n w st).i.imm ∧ (stepR o k n w st).regs ≤ st.regs + 1 ∧ (stepR o k n w st).nums ≤ st.nums + 1 := by
  have h1 : (setS o n w (setP o n w st.i)).op = st.i.op ∧ (setS o n w (setP o n w st.i)).imm = st.i.imm := by
    unfold setS setP
    repeat' split
    all_goals exact ⟨rfl, rfl⟩
  have h2 : ∀ g r i, (putReg o k g r i).op = i.op ∧ (putReg o k g r i).imm = i.imm := fun g r i => by
    unfold putReg
    repeat' split
    all_goals exact ⟨rfl, rfl⟩
  unfold stepR
  generalize setS o n w (setP o n w st.i) = i at h1
  have h3 : ∀ st' : RS, (stepReg o k w st').i.op = st'.i.op ∧ (stepReg o k w st').i.imm = st'.i.imm ∧ (stepReg o k w st').regs ≤ st'.regs + 1 ∧ (stepReg o k w st').nums = st'.nums := fun st' => by
    unfold stepReg
    split
    · exact ⟨(h2 _ _ _).1, (h2 _ _ _).2, Nat.le_refl _, rfl⟩
    · exact ⟨rfl, rfl, by omega, rfl⟩
  have h3 := h3 { st with i := i }
  simp only at h3
  generalize stepReg o k w { st with i := i } = st2 at h3
  have h4 : i64 st2.i.imm := by rw [h3.2.1, h1.2]; exact h
  unfold stepNum
  split
  · rename_i x hx
    have hx64 : i64 x := by
      rw [refNum_num] at hx
      exact ((num_iff w x).1 hx).2
    split
    · exact ⟨by rw [h3.1, h1.1], h4, h3.2.2.1, by omega⟩
    · split
      · exact ⟨by rw [← h1.1, ← h3.1], hx64, h3.2.2.1, by simp only; omega⟩
      · exact ⟨by rw [← h1.1, ← h3.1], h4, h3.2.2.1, by simp only; omega⟩
  · exact ⟨by rw [h3.1, h1.1], h4, h3.2.2.1, by omega⟩
theorem foldR_ok (o k : Nat) : ∀ (ws : List (List UInt8)) (n : Nat) (st : RS), i64 st.i.imm → (foldR o k n ws st).i.op = st.i.op ∧ i64 (foldR o k n ws st).i.imm
  | [], n, st, h => ⟨rfl, h⟩
  | w :: ws, n, st, h => by
    obtain ⟨h1, h2, _⟩ := stepR_ok o k n w st h
    obtain ⟨h3, h4⟩ := foldR_ok o k ws (n + 1) _ h2
    exact ⟨h3.trans h1, h4⟩
theorem cand_ok (o a : Nat) (ws : List (List UInt8)) : (candI o a ws).op = o ∧ i64 (candI o a ws).imm := by
  obtain ⟨h1, h2⟩ := foldR_ok o (sortN o) (ws.drop 1) 1 (begR o a) (show i64 0 from ⟨by decide, by decide⟩)
  exact ⟨h1, h2⟩
def refV (l : List UInt8) : Value := if (guessI l).right = true ∧ (guessI l).text = l then .tuple #[(guessI l).v, .bool true] else .tuple #[Ins.zero.v, .bool false]
theorem refV_sc (l : List UInt8) : isScT (refV l) = true := by
  unfold refV
  split <;> simp [Ins.sc]
theorem wordsA_le : ∀ (l cur : List UInt8), (∀ x ∈ wordsA cur l, x.length ≤ cur.length + l.length) ∧ (wordsA cur l).length ≤ l.length + 1
  | [], cur => by
    unfold wordsA
    split <;> simp
  | b :: r, cur => by
    obtain ⟨h1, h2⟩ := wordsA_le r (cur ++ [b])
    obtain ⟨h3, h4⟩ := wordsA_le r []
    unfold wordsA
    split
    · refine ⟨fun x hx => ?_, by simp; omega⟩
      have := h1 x hx
      simp at this ⊢
      omega
    · split
      · refine ⟨fun x hx => ?_, by simp; omega⟩
        have := h3 x hx
        simp at this ⊢
        omega
      · refine ⟨fun x hx => ?_, by simp; omega⟩
        rcases List.mem_cons.1 hx with rfl | hx
        · simp
        · have := h3 x hx
          simp at this ⊢
          omega
/-- Which of the four. -/
def annA (aq rl : Bool) : Nat := (if aq then 1 else 0) + (if rl then 2 else 0)
theorem rread_any (l : List UInt8) (hl : l.length ≤ 250) (hP : ∀ i : Ins, i.right = true → i64 i.imm → candI i.op.toNat (annA i.aq i.rl) (wordsL i.text) = i) : Run 12 n_ref09_Read [strV l] (refV l) := by
  refine Run.text (F := L_ref09_Read) (fun _ _ => rfl) rfl rfl (by simp [L_ref09_Read]) (refV_sc l) fun d hd => ?_
  have hws : ∀ x ∈ wordsL l, x.length ≤ 300 := fun x hx => by
    have := (wordsA_le l []).1 x hx
    simp at this
    omega
  have hnw : (wordsL l).length ≤ 251 := by
    have := (wordsA_le l []).2
    unfold wordsL
    omega
  have qw := words_any l (by omega) d 0 [{ cells := Ins.zero.cs }] (by omega)
  have hmatch : ∀ o a, (candI o a (wordsL l)).right = true ∧ (candI o a (wordsL l)).text = l → refV l = .tuple #[(candI o a (wordsL l)).v, .bool true] := fun o a h => by
    have := guess_back _ (cand_ok o a (wordsL l)).2 h.1
    rw [h.2] at this
    unfold refV
    rw [this, if_pos h]
  have hnone : (∀ o a, 1 ≤ o → o < 76 → a < 4 → ¬ ((candI o a (wordsL l)).right = true ∧ (candI o a (wordsL l)).text = l)) → refV l = .tuple #[Ins.zero.v, .bool false] := fun h => by
    unfold refV
    rw [if_neg]
    intro hh
    obtain ⟨h1, h2, _⟩ := right_says hh.1
    have hc := hP (guessI l) hh.1 (guessI_imm l).1
    rw [hh.2] at hc
    refine h (guessI l).op.toNat (annA (guessI l).aq (guessI l).rl) (by omega) (by omega) ?_ (by rw [hc]; exact hh)
    unfold annA
    repeat' split
    all_goals omega
  have hcR : ∀ (o a : Nat), o < 76 → ∀ fl H, T K d n_ref07_Right fl [(candI o a (wordsL l)).v] H = some (.bool (candI o a (wordsL l)).right, H) := fun o a ho => by
    have hop := (cand_ok o a (wordsL l)).1
    exact (rright_any _ _ _ _ _ _ _ _ _ (by rw [hop]; exact ⟨by omega, by omega⟩)).any (show 10 ≤ d by omega)
  have hcT : ∀ (o a : Nat), (candI o a (wordsL l)).right = true → ∀ fl H, T K d n_ref09_Text fl [(candI o a (wordsL l)).v] H = some (strV (candI o a (wordsL l)).text, H) := fun o a hr =>
    (rtext_any _ _ _ _ _ _ _ _ _ (cand_ok o a (wordsL l)).2 hr).any (show 9 ≤ d by omega)
  have hword : ∀ n, n < (wordsL l).length → ∃ w, (wordsL l)[n]? = some w ∧ w.length ≤ 300 ∧ (wordsL l).drop n = w :: (wordsL l).drop (n + 1) := fun n hn => ⟨_, List.getElem?_eq_getElem hn, hws _ (List.getElem_mem hn), List.drop_eq_getElem_cons hn⟩
  generalize wordsL l = ws at *
  have hs := fun o (ho : o < 76) => (Run.old3 fun fl H => rsort_in fl o H ho).any (show 6 ≤ d by omega)
  show wp P0 (T K d) 0 K _ _ _
  refine lwp_midH [{ cells := Ins.zero.cs }] (fun env => evO env (.tmp 0) = strV l ∧ evO env (.tmp 2) = .pointer (some ⟨0, 0, some 0⟩)) (by simp [Ins.cs, Ins.zero]) ?_
  rintro env ⟨a0, a2⟩
  refine lwp_midH ([{ cells := Ins.zero.cs }] ++ slH ws.length 1 (ws.map strV)) (fun env => evO env (.tmp 0) = strV l ∧ evO env (.tmp 2) = .pointer (some ⟨0, 0, some 0⟩) ∧ evO env (.tmp 4) = slV 1 ws.length 1) (by simp [a0, a2, qw]) ?_
  clear a0 a2 qw
  rintro env ⟨a0, a2, a4⟩
  have hlen : lenSV (slV 1 ws.length 1) = some (.int .i64 ws.length) := by
    unfold slV
    split
    · rename_i h; simp [h]
    · rfl
  have hbase : ∀ X : Heap, ws.length ≠ 0 → rdN (([{ cells := Ins.zero.cs }] ++ slH ws.length 1 (ws.map strV)) ++ X) ⟨1, 0, some 0⟩ ws.length = some (ws.map strV) := fun X h => by
    refine rdN_mono _ ?_
    simp [slH, h]
    rw [List.take_of_length_le (by simp)]
  have hbl : ws.length ≠ 0 → 2 ≤ ([{ cells := Ins.zero.cs }] ++ slH ws.length 1 (ws.map strV) : Heap).length := fun h => by simp [slH, h]
  have hb0 : ∃ B : Heap, ([{ cells := Ins.zero.cs }] ++ slH ws.length 1 (ws.map strV) : Heap) = { cells := Ins.zero.cs } :: B := ⟨_, rfl⟩
  generalize ([{ cells := Ins.zero.cs }] ++ slH ws.length 1 (ws.map strV) : Heap) = base0 at hbase hbl hb0
  refine lwp_midE (fun env H => evO env (.tmp 2) = .pointer (some ⟨0, 0, some 0⟩) ∧ (∃ X, H = base0 ++ X) ∧ refV l = .tuple #[Ins.zero.v, .bool false]) ?_ ?_
  · refine lwp_midH base0 (fun env => evO env (.tmp 0) = strV l ∧ evO env (.tmp 2) = .pointer (some ⟨0, 0, some 0⟩) ∧ evO env (.tmp 4) = slV 1 ws.length 1 ∧ evO env (.tmp 5) = .int .i64 1) (by simp [a0, a2, a4]) ?_
    clear a0 a2 a4
    rintro env ⟨a0, a2, a4, a5⟩
    refine lwp_block_of (lwp_loopE (fun m env H => ∃ (o : Nat) (X : Heap), o + m = 76 ∧ 1 ≤ o ∧ H = base0 ++ X ∧ evO env (.tmp 0) = strV l ∧ evO env (.tmp 2) = .pointer (some ⟨0, 0, some 0⟩) ∧ evO env (.tmp 4) = slV 1 ws.length 1 ∧ evO env (.tmp 5) = .int .i64 o ∧
        (∀ o' a, 1 ≤ o' → o' < o → a < 4 → ¬ ((candI o' a ws).right = true ∧ (candI o' a ws).text = l)))
      75 ?_ ⟨1, [], by omega, by omega, by simp, a0, a2, a4, a5, fun o' a h1 h2 => by omega⟩ (by decide))
    clear a0 a2 a4 a5
    rintro m env _ ⟨o, X, ho, ho1, rfl, a0, a2, a4, a5, hno⟩ hm
    by_cases h75 : o ≤ 75
    · have e75 : (o : Int) ≤ 75 := by omega
      have wo : IntKind.i64.wrap ((o : Int) + 1) = ((o + 1 : Nat) : Int) := by rw [wrap_i64_id] <;> omega
      refine lwp_midH (base0 ++ X) (fun env => evO env (.tmp 0) = strV l ∧ evO env (.tmp 2) = .pointer (some ⟨0, 0, some 0⟩) ∧ evO env (.tmp 4) = slV 1 ws.length 1 ∧ evO env (.tmp 5) = .int .i64 o) (by simp [a0, a2, a4, a5, e75]) ?_
      clear a0 a2 a4 a5
      rintro env ⟨a0, a2, a4, a5⟩
      refine lwp_midE (fun env H => (∃ X, H = base0 ++ X) ∧ evO env (.tmp 0) = strV l ∧ evO env (.tmp 2) = .pointer (some ⟨0, 0, some 0⟩) ∧ evO env (.tmp 4) = slV 1 ws.length 1 ∧ evO env (.tmp 5) = .int .i64 o ∧ (∀ a, a < 4 → ¬ ((candI o a ws).right = true ∧ (candI o a ws).text = l))) ?_ ?_
      · refine lwp_block_of ?_
        have hso := hs o (by omega)
        refine lwp_midH (base0 ++ X) (fun env => evO env (.tmp 0) = strV l ∧ evO env (.tmp 2) = .pointer (some ⟨0, 0, some 0⟩) ∧ evO env (.tmp 4) = slV 1 ws.length 1 ∧ evO env (.tmp 5) = .int .i64 o ∧ evO env (.tmp 6) = .int .i64 (sortN o)) (by simp [a0, a2, a4, a5, hso]) ?_
        clear a0 a2 a4 a5
        rintro env ⟨a0, a2, a4, a5, a6⟩
        refine lwp_midH (base0 ++ X) (fun env => evO env (.tmp 0) = strV l ∧ evO env (.tmp 2) = .pointer (some ⟨0, 0, some 0⟩) ∧ evO env (.tmp 4) = slV 1 ws.length 1 ∧ evO env (.tmp 5) = .int .i64 o ∧ evO env (.tmp 6) = .int .i64 (sortN o) ∧ evO env (.tmp 7) = .int .i64 0) (by simp [a0, a2, a4, a5, a6]) ?_
        clear a0 a2 a4 a5 a6
        rintro env ⟨a0, a2, a4, a5, a6, a7⟩
        refine lwp_block_of (lwp_loopE (fun m env H => ∃ (a : Nat) (X : Heap), a + m = 4 ∧ H = base0 ++ X ∧ evO env (.tmp 0) = strV l ∧ evO env (.tmp 2) = .pointer (some ⟨0, 0, some 0⟩) ∧ evO env (.tmp 4) = slV 1 ws.length 1 ∧ evO env (.tmp 5) = .int .i64 o ∧ evO env (.tmp 6) = .int .i64 (sortN o) ∧ evO env (.tmp 7) = .int .i64 a ∧
            (∀ a', a' < a → ¬ ((candI o a' ws).right = true ∧ (candI o a' ws).text = l)))
          4 ?_ ⟨0, X, by omega, rfl, a0, a2, a4, a5, a6, a7, fun a h => by omega⟩ (by decide))
        clear a0 a2 a4 a5 a6 a7
        rintro m2 env _ ⟨a, X2, ha, rfl, a0, a2, a4, a5, a6, a7, hna⟩ hm2
        by_cases h4 : a < 4
        · have e4 : (a : Int) < 4 := by omega
          have wa : IntKind.i64.wrap ((a : Int) + 1) = ((a + 1 : Nat) : Int) := by rw [wrap_i64_id] <;> omega
          refine lwp_midH (base0 ++ X2) (fun env => evO env (.tmp 0) = strV l ∧ evO env (.tmp 2) = .pointer (some ⟨0, 0, some 0⟩) ∧ evO env (.tmp 4) = slV 1 ws.length 1 ∧ evO env (.tmp 5) = .int .i64 o ∧ evO env (.tmp 6) = .int .i64 (sortN o) ∧ evO env (.tmp 7) = .int .i64 a) (by simp [a0, a2, a4, a5, a6, a7, e4]) ?_
          clear a0 a2 a4 a5 a6 a7
          rintro env ⟨a0, a2, a4, a5, a6, a7⟩
          refine lwp_midE (fun env H => (∃ X, H = base0 ++ X) ∧ evO env (.tmp 0) = strV l ∧ evO env (.tmp 2) = .pointer (some ⟨0, 0, some 0⟩) ∧ evO env (.tmp 4) = slV 1 ws.length 1 ∧ evO env (.tmp 5) = .int .i64 o ∧ evO env (.tmp 6) = .int .i64 (sortN o) ∧ evO env (.tmp 7) = .int .i64 a ∧ ¬ ((candI o a ws).right = true ∧ (candI o a ws).text = l)) ?_ ?_
          · refine lwp_block_of ?_
            have ht : ((a : Int).tmod 2 = 1) = (a % 2 = 1) := by
              have : a = 0 ∨ a = 1 ∨ a = 2 ∨ a = 3 := by omega
              rcases this with rfl | rfl | rfl | rfl <;> decide
            have h1a : ((1 : Int) < a) = (1 < a) := by simp; omega
            have o51 : ((o : Int) = 51) = (o = 51) := by simp; omega
            have hYw := hbase X2
            have hYl : ws.length ≠ 0 → 1 < (base0 ++ X2).length := fun h => by
              have := hbl h
              simp; omega
            have hYx : ∃ X, base0 ++ X2 = base0 ++ X := ⟨X2, rfl⟩
            have hY0 : ∃ B, base0 ++ X2 = { cells := Ins.zero.cs } :: B := by
              obtain ⟨B, rfl⟩ := hb0
              exact ⟨B ++ X2, rfl⟩
            generalize base0 ++ X2 = Y at hYw hYl hYx hY0
            refine lwp_midH (Y ++ [{ cells := (Ins.mk o 0 0 0 0 (decide (a % 2 = 1)) (decide (1 < a)) 0 0).cs }]) (fun env => evO env (.tmp 0) = strV l ∧ evO env (.tmp 2) = .pointer (some ⟨0, 0, some 0⟩) ∧ evO env (.tmp 4) = slV 1 ws.length 1 ∧ evO env (.tmp 5) = .int .i64 o ∧ evO env (.tmp 6) = .int .i64 (sortN o) ∧ evO env (.tmp 7) = .int .i64 a ∧ evO env (.tmp 8) = .pointer (some ⟨Y.length, 0, some 0⟩)) (by simp [a0, a2, a4, a5, a6, a7, fillV, fillL, wrN_app0, Ins.cs, ht, h1a]) ?_
            clear a0 a2 a4 a5 a6 a7
            rintro env ⟨a0, a2, a4, a5, a6, a7, a8⟩
            refine lwp_midH (Y ++ [{ cells := (begR o a).i.cs }]) (fun env => evO env (.tmp 0) = strV l ∧ evO env (.tmp 2) = .pointer (some ⟨0, 0, some 0⟩) ∧ evO env (.tmp 4) = slV 1 ws.length 1 ∧ evO env (.tmp 5) = .int .i64 o ∧ evO env (.tmp 6) = .int .i64 (sortN o) ∧ evO env (.tmp 7) = .int .i64 a ∧ evO env (.tmp 8) = .pointer (some ⟨Y.length, 0, some 0⟩)) ?_ ?_
            · by_cases h51 : (o = 51) = True
              · simp [a0, a2, a4, a5, a6, a7, a8, o51, h51, wrN_app0, Ins.cs, begR]
              · simp at h51
                simp [a0, a2, a4, a5, a6, a7, a8, o51, h51, wrN_app0, Ins.cs, begR]
            clear a0 a2 a4 a5 a6 a7 a8
            rintro env ⟨a0, a2, a4, a5, a6, a7, a8⟩
            refine lwp_midH (Y ++ [{ cells := (begR o a).i.cs }]) (fun env => evO env (.tmp 0) = strV l ∧ evO env (.tmp 2) = .pointer (some ⟨0, 0, some 0⟩) ∧ evO env (.tmp 4) = slV 1 ws.length 1 ∧ evO env (.tmp 5) = .int .i64 o ∧ evO env (.tmp 6) = .int .i64 (sortN o) ∧ evO env (.tmp 7) = .int .i64 a ∧ evO env (.tmp 8) = .pointer (some ⟨Y.length, 0, some 0⟩) ∧ evO env (.tmp 9) = .int .i64 0 ∧ evO env (.tmp 10) = .int .i64 0) (by simp [a0, a2, a4, a5, a6, a7, a8]) ?_
            clear a0 a2 a4 a5 a6 a7 a8
            rintro env ⟨a0, a2, a4, a5, a6, a7, a8, a9, a10⟩
            refine lwp_midH (Y ++ [{ cells := (candI o a ws).cs }]) (fun env => evO env (.tmp 0) = strV l ∧ evO env (.tmp 2) = .pointer (some ⟨0, 0, some 0⟩) ∧ evO env (.tmp 4) = slV 1 ws.length 1 ∧ evO env (.tmp 5) = .int .i64 o ∧ evO env (.tmp 6) = .int .i64 (sortN o) ∧ evO env (.tmp 7) = .int .i64 a ∧ evO env (.tmp 8) = .pointer (some ⟨Y.length, 0, some 0⟩)) ?_ ?_
            · refine lwp_midH (Y ++ [{ cells := (begR o a).i.cs }]) (fun env => RV l (slV 1 ws.length 1) o (sortN o) a 1 env ∧ evO env (.tmp 8) = .pointer (some ⟨Y.length, 0, some 0⟩) ∧ evO env (.tmp 9) = .int .i64 0 ∧ evO env (.tmp 10) = .int .i64 0) (by simp [RV, a0, a2, a4, a5, a6, a7, a8, a9, a10]) ?_
              clear a0 a2 a4 a5 a6 a7 a8 a9 a10
              rintro env ⟨hV, a8, a9, a10⟩
              refine lwp_block_of (lwp_loopE (fun m env H => ∃ (n : Nat) (st : RS), n + m = ws.length + 1 ∧ 1 ≤ n ∧ H = Y ++ [{ cells := st.i.cs }] ∧ RV l (slV 1 ws.length 1) o (sortN o) a n env ∧ evO env (.tmp 8) = .pointer (some ⟨Y.length, 0, some 0⟩) ∧ evO env (.tmp 9) = .int .i64 st.regs ∧ evO env (.tmp 10) = .int .i64 st.nums ∧ st.regs ≤ n ∧ st.nums ≤ n ∧ i64 st.i.imm ∧ (foldR o (sortN o) n (ws.drop n) st).i = candI o a ws)
                ws.length ?_ ⟨1, begR o a, by omega, by omega, rfl, hV, a8, a9, a10, by simp [begR], by simp [begR], show i64 0 from ⟨by decide, by decide⟩, rfl⟩ (by have : K = 100000 := rfl; omega))
              clear hV a8 a9 a10
              rintro m3 env _ ⟨n, st, hn, hn1, rfl, hV, a8, a9, a10, hg, hu, him, hfold⟩ hm3
              obtain ⟨a0, a2, a4, a5, a6, a7, a11⟩ := id hV
              by_cases hlt : n < ws.length
              · have en : (n : Int) < (ws.length : Int) := by omega
                have hne : ws.length ≠ 0 := by omega
                have wn : IntKind.i64.wrap ((n : Int) + 1) = ((n + 1 : Nat) : Int) := by rw [wrap_i64_id] <;> omega
                obtain ⟨w, hw1, hw2, hw3⟩ := hword n hlt
                rw [hw3] at hfold
                have hsl : slV 1 ws.length 1 = .slice (some ⟨1, 0, some 0⟩) ws.length 1 := by simp [slV, hne]
                refine lwp_midH (Y ++ [{ cells := st.i.cs }]) (fun env => RV l (slV 1 ws.length 1) o (sortN o) a n env ∧ evO env (.tmp 8) = .pointer (some ⟨Y.length, 0, some 0⟩) ∧ evO env (.tmp 9) = .int .i64 st.regs ∧ evO env (.tmp 10) = .int .i64 st.nums) (by simp [RV, a0, a2, a4, a5, a6, a7, a8, a9, a10, a11, hlen, en]) ?_
                clear hV a0 a2 a4 a5 a6 a7 a8 a9 a10 a11
                rintro env ⟨hV, a8, a9, a10⟩
                obtain ⟨q1, q2, q3, q4⟩ := stepR_ok o (sortN o) n w st him
                have hr1 : rd1 Y ⟨1, n, some 0⟩ = some (strV w) := by
                  have := rd1_part (hYw hne) (i := n) (v := strV w) (by simp [hw1])
                  simpa using this
                rw [hsl] at hV
                have hstep := word_step l ws.length o (sortN o) a n w st Y env d (by omega) hlt (by omega) (by omega) hw2 hr1 (hYl hne) rfl hg hu hV a8 a9 a10
                refine lwp_seq_of (lwp_mono (c := subLC [1, 1, 0, 1, 0, 0, 1, 0, 0, 1, 1, 0, 0, 1, 0, 0, 1, 1, 1, 0, 1, 0, 0, 1, 0] L_ref09_Read.body) hstep ?_)
                rintro r ⟨env2, H2⟩ ⟨rfl, hH2, hV2, b8, b9, b10⟩
                simp only at hH2 hV2 b8 b9 b10
                subst hH2
                rw [← hsl] at hV2
                obtain ⟨a0, a2, a4, a5, a6, a7, a11⟩ := id hV2
                simp [a11, wn]
                exact ⟨m3 - 1, by omega, n + 1, by omega, by omega, stepR o (sortN o) n w st, rfl, ⟨by simpa using a0, by simpa using a2, by simpa using a4, by simpa using a5, by simpa using a6, by simpa using a7, by simp⟩, by simpa using b8, by simpa using b9, by simpa using b10, by omega, by omega, q2, hfold⟩
              · have en : ¬ (n : Int) < (ws.length : Int) := by omega
                rw [List.drop_eq_nil_of_le (by omega)] at hfold
                simp only [foldR] at hfold
                rw [hfold]
                simp [a0, a2, a4, a5, a6, a7, a8, a11, hlen, en]
            clear a0 a2 a4 a5 a6 a7 a8 a9 a10
            rintro env ⟨a0, a2, a4, a5, a6, a7, a8⟩
            have hR := hcR o a (by omega)
            have hT := hcT o a
            have hM := hmatch o a
            have hsz := (candI o a ws).size
            have hone := (candI o a ws).one9
            have hag := (candI o a ws).agg
            have hcs := (candI o a ws).cs_v
            have htk : List.take 9 (candI o a ws).v.cells.toList = (candI o a ws).v.cells.toList := rfl
            generalize candI o a ws = c at hR hT hM hsz hone hag hcs htk ⊢
            rw [← hcs]
            clear hcs
            cases hr : c.right with
            | false =>
              rw [hr] at hR
              simp [a0, a2, a4, a5, a6, a7, a8, hsz, htk, hag, hR, hr]
              obtain ⟨X', hX'⟩ := hYx
              exact ⟨X' ++ [_], by rw [hX', List.append_assoc]⟩
            | true =>
              rw [hr] at hR
              have hT := hT hr
              by_cases hteq : c.text = l
              · have hM := hM ⟨hr, hteq⟩
                rw [hM]
                obtain ⟨B, rfl⟩ := hY0
                simp [L_ref09_Read, a0, a2, a4, a5, a6, a7, a8, hsz, htk, hag, hR, hT, hteq, hone, Ins.cs, retQ_pair]
              · simp [a0, a2, a4, a5, a6, a7, a8, hsz, htk, hag, hR, hr, hT, hteq]
                obtain ⟨X', hX'⟩ := hYx
                exact ⟨X' ++ [_], by rw [hX', List.append_assoc]⟩
          clear a0 a2 a4 a5 a6 a7
          rintro env _ ⟨⟨X3, rfl⟩, a0, a2, a4, a5, a6, a7, hn1⟩
          simp [a0, a2, a4, a5, a6, a7, wa]
          refine ⟨m2 - 1, by omega, a + 1, by omega, by simp, fun a' ha' => ?_⟩
          rcases Nat.lt_succ_iff_lt_or_eq.1 ha' with h | rfl
          · exact fun h1 h2 => hna a' h ⟨h1, h2⟩
          · exact fun h1 h2 => hn1 ⟨h1, h2⟩
        · have e4 : ¬ (a : Int) < 4 := by omega
          simp [a0, a2, a4, a5, a6, a7, e4]
          exact fun a' ha' h1 h2 => hna a' (by omega) ⟨h1, h2⟩
      clear a0 a2 a4 a5
      rintro env _ ⟨⟨X3, rfl⟩, a0, a2, a4, a5, hn1⟩
      simp [a0, a2, a4, a5, wo]
      refine ⟨m - 1, by omega, o + 1, by omega, by omega, by simp, fun o' a' h1 h2 h3 => ?_⟩
      rcases Nat.lt_succ_iff_lt_or_eq.1 h2 with h | rfl
      · exact fun h4 h5 => hno o' a' h1 h h3 ⟨h4, h5⟩
      · exact fun h4 h5 => hn1 a' h3 ⟨h4, h5⟩
    · have e75 : ¬ (o : Int) ≤ 75 := by omega
      simp [a0, a2, a4, a5, e75]
      exact hnone fun o' a h1 h2 h3 => hno o' a h1 (by omega) h3
  clear a0 a2 a4
  rintro env _ ⟨a2, ⟨X, rfl⟩, hq⟩
  rw [hq]
  obtain ⟨B, rfl⟩ := hb0
  simp [L_ref09_Read, a2, Ins.cs, Ins.zero, Ins.v, instV, fillV, fillL, retQ_pair]
end Go.Lev.Seat


namespace Go.Lev.Seat
open Go Go.Lev
set_option linter.unusedSimpArgs false
set_option linter.unusedVariables false
set_option maxHeartbeats 8000000
set_option maxRecDepth 20000
def wordy (l : List UInt8) : Bool := l.all wordB
theorem wordy_digits (u : Nat) : wordy (Lib.decDigits u) = true := by
  induction u using Nat.strongRecOn with
  | _ u ih =>
    have hd : ∀ d : Nat, d < 10 → wordy [UInt8.ofNat (48 + d)] = true := by
      intro d hd
      have : ∀ i : Fin 10, wordy [UInt8.ofNat (48 + i.val)] = true := by decide
      exact this ⟨d, hd⟩
    by_cases h : u < 10
    · rw [decDigits_small h]; exact hd u h
    · rw [decDigits_big h]
      have h1 := ih (u / 10) (by omega)
      have h2 := hd (u % 10) (by omega)
      simp only [wordy, List.all_append, Bool.and_eq_true] at h1 h2 ⊢
      exact ⟨h1, h2⟩
theorem wordy_itoa (n : Int) : wordy (Lib.itoa n) = true := by
  unfold Lib.itoa
  split
  · have := wordy_digits n.natAbs
    simp only [wordy, List.all_cons, Bool.and_eq_true] at this ⊢
    exact ⟨by decide, this⟩
  · exact wordy_digits _
theorem wordy_reg (n : Int) : wordy (regT n) = true := by
  have := wordy_itoa n
  simp only [wordy, regT, List.all_cons, Bool.and_eq_true] at this ⊢
  exact ⟨by decide, this⟩
theorem set_facts : ∀ i : Fin 16, wordy (setN i.val) = true ∧ bitsN (setN i.val) = i.val ∧ refReg (setN i.val) = none ∧ setN i.val ≠ [] := by decide +kernel
theorem names_wordy : ∀ i : Fin 76, 1 ≤ i.val → ∀ aq rl : Bool, wordy (nameT i.val aq rl) = true ∧ nameT i.val aq rl ≠ [] := by decide +kernel
/-- A word, and what is behind it. -/
theorem words_word : ∀ (a cur r : List UInt8), wordy a = true → cur ++ a ≠ [] → (∀ b, wordB b = false → wordsA cur (a ++ b :: r) = (cur ++ a) :: wordsA [] r) ∧ wordsA cur a = [cur ++ a]
  | [], cur, r, _, hne => by
    have hc : cur ≠ [] := by simpa using hne
    refine ⟨fun b hb => ?_, ?_⟩
    · show wordsA cur (b :: r) = _
      rw [wordsA, if_neg (by simp [hb]), if_neg hc]
      simp
    · rw [wordsA, if_neg hc]
      simp
  | b :: a, cur, r, h, hne => by
    simp only [wordy, List.all_cons, Bool.and_eq_true] at h
    obtain ⟨i1, i2⟩ := words_word a (cur ++ [b]) r h.2 (by simp)
    refine ⟨fun c hc => ?_, ?_⟩
    · rw [List.cons_append, wordsA, if_pos h.1, i1 c hc]; simp
    · rw [wordsA, if_pos h.1, i2]; simp
theorem words_skip (b : UInt8) (r : List UInt8) (h : wordB b = false) : wordsA [] (b :: r) = wordsA [] r := by
  rw [wordsA, if_neg (by simp [h]), if_pos rfl]
theorem refReg_regT (n : Int) (h : 0 ≤ n ∧ n ≤ 31) : refReg (regT n) = some n ∧ refNum (regT n) = none := by
  constructor
  · rw [refReg_reg]
    have h1 : hasPre (regT n) [120] = true := by simp [hasPre, regT]
    have h2 : num (Lib.itoa n) = some n := num_itoa n (by omega) (by omega)
    simp [reg, h1]
    simp [regT, h2, h]
  · rw [refNum_num]
    cases hx : num (regT n) with
    | none => rfl
    | some v =>
      have hv := ((num_iff _ _).1 hx).1
      exfalso
      have hd := wordy_itoa v
      have h0 : (Lib.itoa v).head? = some 120 := by rw [hv]; rfl
      have : ∀ v, (Lib.itoa v).head? ≠ some 120 := by
        intro v h
        have hall : ∀ x ∈ Lib.itoa v, x = 45 ∨ (48 ≤ x.toNat ∧ x.toNat ≤ 57) := by
          have hdig : ∀ u : Nat, ∀ x ∈ Lib.decDigits u, 48 ≤ x.toNat ∧ x.toNat ≤ 57 := by
            intro u x hx
            have hf := decDigits_from u
            obtain ⟨j, hj⟩ := List.getElem?_of_mem hx
            obtain ⟨dd, hdd⟩ := Lib.digit_of_decFrom _ 0 u hf j x hj
            obtain ⟨h1, h2, h3⟩ := Lib.digitVal_eq hdd
            exact ⟨h1, h2⟩
          intro x hx
          unfold Lib.itoa at hx
          split at hx
          · rcases List.mem_cons.1 hx with rfl | hx
            · exact .inl rfl
            · exact .inr (hdig _ x hx)
          · exact .inr (hdig _ x hx)
        have hm : (120 : UInt8) ∈ Lib.itoa v := List.mem_of_head? h
        rcases hall 120 hm with h | h
        · exact absurd h (by decide)
        · exact absurd h (by decide)
      exact this v h0
theorem ref_itoa (n : Int) (h : i64 n) : refReg (Lib.itoa n) = none ∧ refNum (Lib.itoa n) = some n := by
  constructor
  · rw [refReg_reg]
    unfold reg
    rw [if_neg]
    intro hp
    have h0 : (Lib.itoa n).head? = some 120 := by
      simp [hasPre] at hp
      cases hl : Lib.itoa n with
      | nil => rw [hl] at hp; simp at hp
      | cons a r => rw [hl] at hp; simp at hp; simp [hp]
    have hm : (120 : UInt8) ∈ Lib.itoa n := List.mem_of_head? h0
    have hdig : ∀ u : Nat, ∀ x ∈ Lib.decDigits u, 48 ≤ x.toNat ∧ x.toNat ≤ 57 := by
      intro u x hx
      have hf := decDigits_from u
      obtain ⟨j, hj⟩ := List.getElem?_of_mem hx
      obtain ⟨dd, hdd⟩ := Lib.digit_of_decFrom _ 0 u hf j x hj
      obtain ⟨h1, h2, h3⟩ := Lib.digitVal_eq hdd
      exact ⟨h1, h2⟩
    unfold Lib.itoa at hm
    split at hm
    · rcases List.mem_cons.1 hm with h | hm
      · exact absurd h (by decide)
      · exact absurd (hdig _ _ hm) (by decide)
    · exact absurd (hdig _ _ hm) (by decide)
  · rw [refNum_num]
    exact num_itoa n h.1 h.2
theorem ann_bits (aq rl : Bool) : decide (annA aq rl % 2 = 1) = aq ∧ decide (1 < annA aq rl) = rl := by cases aq <;> cases rl <;> decide
theorem cand_text (o : Nat) (ho : o < 76) (rd r1 r2 imm p s : Int) (aq rl : Bool) (him : i64 imm) (h : rightC o rd r1 r2 imm aq rl p s = true) : candI o (annA aq rl) (wordsL (textN o rd r1 r2 imm aq rl p s)) = ⟨o, rd, r1, r2, imm, aq, rl, p, s⟩ := by
  simp only [rightC, regsB, ownB, Bool.and_eq_true, Bool.or_eq_true, Bool.not_eq_true', decide_eq_true_eq, decide_eq_false_iff_not] at h
  obtain ⟨⟨⟨⟨hs0, ⟨⟨⟨⟨⟨a1, a2⟩, a3⟩, a4⟩, a5⟩, a6⟩⟩, ⟨⟨⟨b1, b2⟩, b3⟩, b4⟩⟩, him2⟩, hset⟩ := h
  have ho1 : 1 ≤ o := by
    rcases Nat.eq_zero_or_pos o with rfl | h
    · exact absurd rfl hs0
    · exact h
  obtain ⟨hin, hinne⟩ := names_wordy ⟨o, ho⟩ ho1 aq rl
  obtain ⟨c1, c2, c3, c4, c5, c6, c8, c9, c10, c7, cn8, c0, c12⟩ := sort_has ⟨o, ho⟩
  simp only at hin hinne c1 c2 c3 c4 c5 c6 c8 c9 c10 c7 cn8 c0 c12
  obtain ⟨x1, y1⟩ := refReg_regT rd ⟨a1, a2⟩
  obtain ⟨x2, y2⟩ := refReg_regT r1 ⟨a3, a4⟩
  obtain ⟨x3, y3⟩ := refReg_regT r2 ⟨a5, a6⟩
  obtain ⟨x4, y4⟩ := ref_itoa imm him
  have k1 := wordy_reg rd
  have k2 := wordy_reg r1
  have k3 := wordy_reg r2
  have k4 := wordy_itoa imm
  have i4 := itoa_ne imm
  have v1 : regT rd ≠ [] := by simp [regT]
  have v2 : regT r1 ≠ [] := by simp [regT]
  have v3 : regT r2 ≠ [] := by simp [regT]
  obtain ⟨n1, n2⟩ := ann_bits aq rl
  have w44 : wordB 44 = false := by decide
  have w40 : wordB 40 = false := by decide
  have w41 : wordB 41 = false := by decide
  have w32 : wordB 32 = false := by decide
  have key : ∀ (rest : List UInt8) (L : List (List UInt8)), wordsA [] rest = L → wordsL (nameT o aq rl ++ 32 :: rest) = nameT o aq rl :: L := fun rest L hL => by
    unfold wordsL
    rw [(words_word _ [] rest hin (by simpa using hinne)).1 32 w32, hL]
    rfl
  have key0 : wordsL (nameT o aq rl) = [nameT o aq rl] := by
    unfold wordsL
    rw [(words_word _ [] [] hin (by simpa using hinne)).2]
    rfl
  have ww : ∀ (a r : List UInt8) (b : UInt8), wordy a = true → a ≠ [] → wordB b = false → wordsA [] (a ++ b :: r) = a :: wordsA [] r := fun a r b h1 h2 h3 => by
    rw [(words_word a [] r h1 (by simpa using h2)).1 b h3]; rfl
  have we : ∀ (a : List UInt8), wordy a = true → a ≠ [] → wordsA [] a = [a] := fun a h1 h2 => by
    rw [(words_word a [] [] h1 (by simpa using h2)).2]; rfl
  have wn : wordsA [] [] = [] := by simp [wordsA]
  have hp0 : sortN o ≠ 8 → p = 0 ∧ s = 0 := fun h8 => by
    obtain ⟨x, y⟩ := cn8 h8
    simpa [setsB, x, y] using hset
  have him0 : 7 ≤ sortN o → imm = 0 := fun h7 => by
    obtain ⟨x, y⟩ := c7 h7
    simpa [immB, x, y] using him2
  have hn4 : sortN o ≠ 2 → ¬ o = 4 := by rintro h rfl; exact h (by decide)
  have hc : sortN o = 1 ∨ sortN o = 2 ∨ sortN o = 3 ∨ sortN o = 4 ∨ sortN o = 5 ∨ sortN o = 6 ∨ sortN o = 7 ∨ sortN o = 8 ∨ sortN o = 9 ∨ sortN o = 10 ∨ sortN o = 11 ∨ sortN o = 12 := by omega
  unfold textN
  rcases hc with e | e | e | e | e | e | e | e | e | e | e | e
  · obtain ⟨rfl, rfl⟩ := hp0 (by omega)
    obtain ⟨f1, f2⟩ := c1 e
    have z1 : r1 = 0 := by simpa [f1] using b2
    have z2 : r2 = 0 := by simpa [f2] using b3
    obtain ⟨n50, n51⟩ := cn8 (by omega)
    have n4 := hn4 (by omega)
    have hp : partsN o rd r1 r2 imm 0 0 = [regT rd, Lib.itoa imm] := by simp [partsN, e]
    rw [hp, if_neg (by simp)]
    have hj : Lib.join [regT rd, Lib.itoa imm] [44, 32] = regT rd ++ 44 :: 32 :: Lib.itoa imm := by simp [Lib.join]
    rw [hj, key _ [regT rd, Lib.itoa imm] (by rw [ww _ _ _ k1 v1 w44, words_skip _ _ w32, we _ k4 i4])]
    simp [candI, foldR, stepR, stepReg, stepNum, setP, setS, putReg, begR, e, n1, n2, x1, x2, x3, x4, y1, y2, y3, y4, z1, z2, n50, n51, n4]
  · obtain ⟨f2, f34, f1⟩ := c2 e
    obtain ⟨rfl, rfl⟩ := hp0 (by omega)
    have z2 : r2 = 0 := by simpa [f2] using b3
    rcases f34 with rfl | rfl
    · have z1 : r1 = 0 := by simpa [f1 rfl] using b2
      have hp : partsN 3 rd r1 r2 imm 0 0 = [regT rd, Lib.itoa imm] := by simp [partsN, e]
      rw [hp, if_neg (by simp)]
      have hj : Lib.join [regT rd, Lib.itoa imm] [44, 32] = regT rd ++ 44 :: 32 :: Lib.itoa imm := by simp [Lib.join]
      rw [hj, key _ [regT rd, Lib.itoa imm] (by rw [ww _ _ _ k1 v1 w44, words_skip _ _ w32, we _ k4 i4])]
      simp [candI, foldR, stepR, stepReg, stepNum, setP, setS, putReg, begR, e, n1, n2, x1, x2, x3, x4, y1, y2, y3, y4, z1, z2]
    · skip
      have hp : partsN 4 rd r1 r2 imm 0 0 = [regT rd, regT r1, Lib.itoa imm] := by simp [partsN, e]
      rw [hp, if_neg (by simp)]
      have hj : Lib.join [regT rd, regT r1, Lib.itoa imm] [44, 32] = regT rd ++ 44 :: 32 :: (regT r1 ++ 44 :: 32 :: Lib.itoa imm) := by simp [Lib.join]
      rw [hj, key _ [regT rd, regT r1, Lib.itoa imm] (by rw [ww _ _ _ k1 v1 w44, words_skip _ _ w32, ww _ _ _ k2 v2 w44, words_skip _ _ w32, we _ k4 i4])]
      simp [candI, foldR, stepR, stepReg, stepNum, setP, setS, putReg, begR, e, n1, n2, x1, x2, x3, x4, y1, y2, y3, y4, z2]
  · obtain ⟨rfl, rfl⟩ := hp0 (by omega)
    obtain ⟨n50, n51⟩ := cn8 (by omega)
    have n4 := hn4 (by omega)
    have z0 : rd = 0 := by simpa [c3 e] using b1
    have hp : partsN o rd r1 r2 imm 0 0 = [regT r1, regT r2, Lib.itoa imm] := by simp [partsN, e]
    rw [hp, if_neg (by simp)]
    have hj : Lib.join [regT r1, regT r2, Lib.itoa imm] [44, 32] = regT r1 ++ 44 :: 32 :: (regT r2 ++ 44 :: 32 :: Lib.itoa imm) := by simp [Lib.join]
    rw [hj, key _ [regT r1, regT r2, Lib.itoa imm] (by rw [ww _ _ _ k2 v2 w44, words_skip _ _ w32, ww _ _ _ k3 v3 w44, words_skip _ _ w32, we _ k4 i4])]
    simp [candI, foldR, stepR, stepReg, stepNum, setP, setS, putReg, begR, e, n1, n2, x1, x2, x3, x4, y1, y2, y3, y4, z0, n50, n51, n4]
  · obtain ⟨rfl, rfl⟩ := hp0 (by omega)
    obtain ⟨n50, n51⟩ := cn8 (by omega)
    have n4 := hn4 (by omega)
    have z0 : r2 = 0 := by simpa [c4 e] using b3
    have hp : partsN o rd r1 r2 imm 0 0 = [regT rd, Lib.itoa imm ++ 40 :: regT r1 ++ [41]] := by simp [partsN, e]
    rw [hp, if_neg (by simp)]
    have hj : Lib.join [regT rd, Lib.itoa imm ++ 40 :: regT r1 ++ [41]] [44, 32] = regT rd ++ 44 :: 32 :: (Lib.itoa imm ++ 40 :: (regT r1 ++ 41 :: [])) := by simp [Lib.join]
    rw [hj, key _ [regT rd, Lib.itoa imm, regT r1] (by rw [ww _ _ _ k1 v1 w44, words_skip _ _ w32, ww _ _ _ k4 i4 w40, ww _ _ _ k2 v2 w41, wn])]
    simp [candI, foldR, stepR, stepReg, stepNum, setP, setS, putReg, begR, e, n1, n2, x1, x2, x3, x4, y1, y2, y3, y4, z0, n50, n51, n4]
  · obtain ⟨rfl, rfl⟩ := hp0 (by omega)
    obtain ⟨n50, n51⟩ := cn8 (by omega)
    have n4 := hn4 (by omega)
    have z0 : rd = 0 := by simpa [c5 e] using b1
    have hp : partsN o rd r1 r2 imm 0 0 = [regT r2, Lib.itoa imm ++ 40 :: regT r1 ++ [41]] := by simp [partsN, e]
    rw [hp, if_neg (by simp)]
    have hj : Lib.join [regT r2, Lib.itoa imm ++ 40 :: regT r1 ++ [41]] [44, 32] = regT r2 ++ 44 :: 32 :: (Lib.itoa imm ++ 40 :: (regT r1 ++ 41 :: [])) := by simp [Lib.join]
    rw [hj, key _ [regT r2, Lib.itoa imm, regT r1] (by rw [ww _ _ _ k3 v3 w44, words_skip _ _ w32, ww _ _ _ k4 i4 w40, ww _ _ _ k2 v2 w41, wn])]
    simp [candI, foldR, stepR, stepReg, stepNum, setP, setS, putReg, begR, e, n1, n2, x1, x2, x3, x4, y1, y2, y3, y4, z0, n50, n51, n4]
  · obtain ⟨rfl, rfl⟩ := hp0 (by omega)
    obtain ⟨n50, n51⟩ := cn8 (by omega)
    have n4 := hn4 (by omega)
    have z0 : r2 = 0 := by simpa [c6 e] using b3
    have hp : partsN o rd r1 r2 imm 0 0 = [regT rd, regT r1, Lib.itoa imm] := by simp [partsN, e]
    rw [hp, if_neg (by simp)]
    have hj : Lib.join [regT rd, regT r1, Lib.itoa imm] [44, 32] = regT rd ++ 44 :: 32 :: (regT r1 ++ 44 :: 32 :: Lib.itoa imm) := by simp [Lib.join]
    rw [hj, key _ [regT rd, regT r1, Lib.itoa imm] (by rw [ww _ _ _ k1 v1 w44, words_skip _ _ w32, ww _ _ _ k2 v2 w44, words_skip _ _ w32, we _ k4 i4])]
    simp [candI, foldR, stepR, stepReg, stepNum, setP, setS, putReg, begR, e, n1, n2, x1, x2, x3, x4, y1, y2, y3, y4, z0, n50, n51, n4]
  · obtain ⟨rfl, rfl⟩ := hp0 (by omega)
    obtain ⟨n50, n51⟩ := cn8 (by omega)
    have n4 := hn4 (by omega)
    obtain rfl := him0 (by omega)
    have hp : partsN o rd r1 r2 0 0 0 = [regT rd, regT r1, regT r2] := by simp [partsN, e]
    rw [hp, if_neg (by simp)]
    have hj : Lib.join [regT rd, regT r1, regT r2] [44, 32] = regT rd ++ 44 :: 32 :: (regT r1 ++ 44 :: 32 :: regT r2) := by simp [Lib.join]
    rw [hj, key _ [regT rd, regT r1, regT r2] (by rw [ww _ _ _ k1 v1 w44, words_skip _ _ w32, ww _ _ _ k2 v2 w44, words_skip _ _ w32, we _ k3 v3])]
    simp [candI, foldR, stepR, stepReg, stepNum, setP, setS, putReg, begR, e, n1, n2, x1, x2, x3, x4, y1, y2, y3, y4, n50, n51, n4]
  · obtain ⟨f5, f0, f1, f2⟩ := c8 e
    obtain rfl := him0 (by omega)
    have z0 : rd = 0 := by simpa [f0] using b1
    have z1 : r1 = 0 := by simpa [f1] using b2
    have z2 : r2 = 0 := by simpa [f2] using b3
    obtain ⟨rfl, rfl⟩ : aq = false ∧ rl = false := by
      rcases b4 with b4 | b4
      · omega
      · exact b4
    rcases f5 with rfl | rfl
    · have hs2 : 0 ≤ p ∧ p ≤ 15 ∧ 0 ≤ s ∧ s ≤ 15 := by simp [setsB] at hset; omega
      obtain ⟨t1, t2, t3, t4⟩ := set_facts ⟨p.toNat, by omega⟩
      obtain ⟨u1, u2, u3, u4⟩ := set_facts ⟨s.toNat, by omega⟩
      simp only at t1 t2 t3 t4 u1 u2 u3 u4
      have y3 : ((p.toNat : Nat) : Int) = p := Int.toNat_of_nonneg (by omega)
      have y4 : ((s.toNat : Nat) : Int) = s := Int.toNat_of_nonneg (by omega)
      have hp : partsN 50 rd r1 r2 0 p s = [setN p.toNat, setN s.toNat] := by simp [partsN, e]
      rw [hp, if_neg (by simp)]
      have hj : Lib.join [setN p.toNat, setN s.toNat] [44, 32] = setN p.toNat ++ 44 :: 32 :: setN s.toNat := by simp [Lib.join]
      rw [hj, key _ [setN p.toNat, setN s.toNat] (by rw [ww _ _ _ t1 t4 w44, words_skip _ _ w32, we _ u1 u4])]
      cases hx : refNum (setN p.toNat) <;> cases hy : refNum (setN s.toNat) <;> simp [candI, foldR, stepR, stepReg, stepNum, setP, setS, putReg, begR, e, n1, n2, t2, t3, u2, u3, hx, hy, z0, z1, z2] <;> omega
    · have hs2 : p = 3 ∧ s = 3 := by simpa [setsB] using hset
      have hp : partsN 51 rd r1 r2 0 p s = [] := by simp [partsN, e]
      rw [hp, if_pos rfl, key0]
      simp [candI, foldR, begR, n1, n2, z0, z1, z2, hs2]
  · obtain ⟨f0, f1, f2⟩ := c9 e
    obtain rfl := him0 (by omega)
    obtain ⟨rfl, rfl⟩ := hp0 (by omega)
    obtain ⟨n50, n51⟩ := cn8 (by omega)
    have n4 := hn4 (by omega)
    have z0 : rd = 0 := by simpa [f0] using b1
    have z1 : r1 = 0 := by simpa [f1] using b2
    have z2 : r2 = 0 := by simpa [f2] using b3
    have hp : partsN o rd r1 r2 0 0 0 = [] := by simp [partsN, e]
    rw [hp, if_pos rfl, key0]
    simp [candI, foldR, begR, n1, n2, z0, z1, z2, n51]
  · obtain rfl := him0 (by omega)
    obtain ⟨rfl, rfl⟩ := hp0 (by omega)
    obtain ⟨n50, n51⟩ := cn8 (by omega)
    have n4 := hn4 (by omega)
    have z2 : r2 = 0 := by simpa [c10 e] using b3
    have hp : partsN o rd r1 r2 0 0 0 = [regT rd, 40 :: regT r1 ++ [41]] := by simp [partsN, e]
    rw [hp, if_neg (by simp)]
    have hj : Lib.join [regT rd, 40 :: regT r1 ++ [41]] [44, 32] = regT rd ++ 44 :: 32 :: 40 :: (regT r1 ++ 41 :: []) := by simp [Lib.join]
    rw [hj, key _ [regT rd, regT r1] (by rw [ww _ _ _ k1 v1 w44, words_skip _ _ w32, words_skip _ _ w40, ww _ _ _ k2 v2 w41, wn])]
    simp [candI, foldR, stepR, stepReg, stepNum, setP, setS, putReg, begR, e, n1, n2, x1, x2, x3, x4, y1, y2, y3, y4, z2, n50, n51, n4]
  · obtain rfl := him0 (by omega)
    obtain ⟨rfl, rfl⟩ := hp0 (by omega)
    obtain ⟨n50, n51⟩ := cn8 (by omega)
    have n4 := hn4 (by omega)
    have hp : partsN o rd r1 r2 0 0 0 = [regT rd, regT r2, 40 :: regT r1 ++ [41]] := by simp [partsN, e]
    rw [hp, if_neg (by simp)]
    have hj : Lib.join [regT rd, regT r2, 40 :: regT r1 ++ [41]] [44, 32] = regT rd ++ 44 :: 32 :: (regT r2 ++ 44 :: 32 :: 40 :: (regT r1 ++ 41 :: [])) := by simp [Lib.join]
    rw [hj, key _ [regT rd, regT r2, regT r1] (by rw [ww _ _ _ k1 v1 w44, words_skip _ _ w32, ww _ _ _ k3 v3 w44, words_skip _ _ w32, words_skip _ _ w40, ww _ _ _ k2 v2 w41, wn])]
    simp [candI, foldR, stepR, stepReg, stepNum, setP, setS, putReg, begR, e, n1, n2, x1, x2, x3, x4, y1, y2, y3, y4, n50, n51, n4]
  · obtain rfl := him0 (by omega)
    obtain ⟨rfl, rfl⟩ := hp0 (by omega)
    obtain ⟨n50, n51⟩ := cn8 (by omega)
    have n4 := hn4 (by omega)
    have hp : partsN o rd r1 r2 0 0 0 = [regT rd, regT r2, 40 :: regT r1 ++ [41]] := by simp [partsN, e]
    rw [hp, if_neg (by simp)]
    have hj : Lib.join [regT rd, regT r2, 40 :: regT r1 ++ [41]] [44, 32] = regT rd ++ 44 :: 32 :: (regT r2 ++ 44 :: 32 :: 40 :: (regT r1 ++ 41 :: [])) := by simp [Lib.join]
    rw [hj, key _ [regT rd, regT r2, regT r1] (by rw [ww _ _ _ k1 v1 w44, words_skip _ _ w32, ww _ _ _ k3 v3 w44, words_skip _ _ w32, words_skip _ _ w40, ww _ _ _ k2 v2 w41, wn])]
    simp [candI, foldR, stepR, stepReg, stepNum, setP, setS, putReg, begR, e, n1, n2, x1, x2, x3, x4, y1, y2, y3, y4, n50, n51, n4]
theorem cand_ins (i : Ins) (h : i.right = true) (hm : i64 i.imm) : candI i.op.toNat (annA i.aq i.rl) (wordsL i.text) = i := by
  obtain ⟨h1, h2, _⟩ := right_says h
  have h3 : rightC i.op.toNat i.rd i.r1 i.r2 i.imm i.aq i.rl i.p i.s = true := by
    simp only [Ins.right, rightI, Bool.and_eq_true] at h
    exact h.2
  have := cand_text i.op.toNat (by omega) i.rd i.r1 i.r2 i.imm i.p i.s i.aq i.rl hm h3
  rw [Int.toNat_of_nonneg (by omega)] at this
  exact this
end Go.Lev.Seat


namespace Go.Lev.Seat
open Go Go.Lev
set_option linter.unusedSimpArgs false
set_option linter.unusedVariables false
set_option maxHeartbeats 4000000
theorem reads_run (l : List UInt8) : Run 21 n_law09_ShowReads [strV l] (.bool true) := by
  refine Run.text (F := L_law09_ShowReads) (fun _ _ => rfl) rfl rfl (by simp [L_law09_ShowReads]) rfl fun d hd => ?_
  have hA := alive_any.any hd
  by_cases hl : l.length ≤ 200
  · have e : ¬ (200 : Int) < (l.length : Int) := by omega
    have hR := (read_any l (by omega)).any (show 11 ≤ d by omega)
    have hQ := (rread_any l (by omega) cand_ins).any (show 12 ≤ d by omega)
    unfold readV at hR
    unfold refV at hQ
    generalize guessI l = x at hR hQ
    by_cases hok : x.right = true ∧ x.text = l
    · rw [if_pos hok] at hR hQ
      have ax := x.agg
      have sx := x.size
      have ox := x.one9
      have tx : List.take 9 x.v.cells.toList = x.v.cells.toList := rfl
      have exx := Ins.eq_V x x false
      have hxx : x.same x = true := (Ins.same_iff x x).2 rfl
      rw [hxx] at exx
      generalize x.v = V at hR hQ ax sx ox tx exx
      simp [L_law09_ShowReads, e, hA, hR, hQ, ax, sx, ox, tx, exx, wrN_app0]
    · rw [if_neg hok] at hR hQ
      have ax := Ins.zero.agg
      have sx := Ins.zero.size
      have ox := Ins.zero.one9
      have tx : List.take 9 Ins.zero.v.cells.toList = Ins.zero.v.cells.toList := rfl
      have exx := Ins.eq_V Ins.zero Ins.zero false
      have hxx : Ins.zero.same Ins.zero = true := (Ins.same_iff _ _).2 rfl
      rw [hxx] at exx
      generalize Ins.zero.v = V at hR hQ ax sx ox tx exx
      simp [L_law09_ShowReads, e, hA, hR, hQ, ax, sx, ox, tx, exx, wrN_app0]
  · have e : (200 : Int) < (l.length : Int) := by omega
    simp [L_law09_ShowReads, e, hA]
end Go.Lev.Seat

/- show.guess, whole. -/
import Derived.Test.YtcaogimdpcaohaaGreatDoorHf
set_option linter.unusedVariables false
set_option linter.unusedSimpArgs false
set_option linter.constructorNameAsVariable false

namespace Go.Lev.Seat
open Go Go.Lev
set_option linter.unusedSimpArgs false
set_option linter.unusedVariables false
set_option maxHeartbeats 4000000
theorem cutA_le : ∀ (n : Nat) (l cur : List UInt8), l.length ≤ n → (∀ x ∈ cutA cur l, x.length ≤ cur.length + l.length) ∧ cutA cur l ≠ []
  | _, [], cur, _ => by simp [cutA]
  | 0, b :: r, cur, h => by simp at h
  | n + 1, b :: r, cur, h => by
    have h' : r.length ≤ n := by simpa using h
    rw [cutA]
    split
    · refine ⟨fun x hx => ?_, by simp⟩
      rcases List.mem_cons.1 hx with rfl | hx
      · simp
      · cases r with
        | nil => simp [cutA.cutB] at hx; simp [hx]
        | cons c r =>
          have h2 : r.length ≤ n := by simp at h'; omega
          have := (cutA_le n r [] h2).1 x (by simpa [cutA.cutB] using hx)
          simp at this ⊢
          omega
    · split
      · refine ⟨fun x hx => ?_, by simp⟩
        rcases List.mem_cons.1 hx with rfl | hx
        · simp
        · have := (cutA_le n r [] h').1 x hx
          simp at this ⊢
          omega
      · refine ⟨fun x hx => ?_, (cutA_le n r _ h').2⟩
        have := (cutA_le n r (cur ++ [b]) h').1 x hx
        simp at this ⊢
        omega
theorem cut_le (l sep : List UInt8) : (Lib.cut l sep).1.length ≤ l.length ∧ (Lib.cut l sep).2.1.length ≤ l.length := by
  unfold Lib.cut
  split
  · simp; omega
  · simp
theorem trim_le (l p : List UInt8) : (trimSuf l p).length ≤ l.length := by
  unfold trimSuf
  split
  · simp
  · simp
theorem args_ok (l : List UInt8) : 4 ≤ (argsOf l).length ∧ ∀ x ∈ argsOf l, x.length ≤ l.length := by
  have h1 := cut_le l [32]
  have h2 := trim_le (Lib.cut l [32]).2.1 [41]
  obtain ⟨h3, h4⟩ := cutA_le _ (trimSuf (Lib.cut l [32]).2.1 [41]) [] (Nat.le_refl _)
  have h5 := List.length_pos_iff.2 h4
  refine ⟨by simp [argsOf, cutL]; omega, fun x hx => ?_⟩
  simp only [argsOf, List.mem_append] at hx
  rcases hx with hx | hx
  · have := h3 x hx
    simp at this
    omega
  · simp at hx
    simp [hx]
theorem cut_few : ∀ (n : Nat) (l cur : List UInt8), l.length ≤ n → (cutA cur l).length ≤ l.length + 1
  | _, [], cur, _ => by simp [cutA]
  | 0, b :: r, cur, h => by simp at h
  | n + 1, b :: r, cur, h => by
    have h' : r.length ≤ n := by simpa using h
    rw [cutA]
    split
    · cases r with
      | nil => simp [cutA.cutB]
      | cons c r =>
        have h2 : r.length ≤ n := by simp at h'; omega
        have := cut_few n r [] h2
        simp [cutA.cutB]
        omega
    · split
      · have := cut_few n r [] h'
        simp
        omega
      · have := cut_few n r (cur ++ [b]) h'
        simp
        omega
theorem inst_scT (op rd r1 r2 imm : Int) (aq rl : Bool) (p s : Int) : isScT (instV op rd r1 r2 imm aq rl p s) = true := by simp [instV]
theorem guessL_sc (o : Nat) (aq rl : Bool) (L : List (List UInt8)) : isScT (guessL o aq rl L) = true := by
  unfold guessL
  dsimp only
  repeat' split
  all_goals exact inst_scT _ _ _ _ _ _ _ _ _
theorem guess_any (l : List UInt8) (hl : l.length ≤ 900) : Run 10 n_show_guess [strV l] (guessV l) := by
  refine Run.text (F := L_show_guess) (fun _ _ => rfl) rfl rfl (by simp [L_show_guess]) (guessL_sc _ _ _ _) fun d hd => ?_
  have q1 := (cutrow l [32] (by omega)).any (show 0 ≤ d by omega)
  obtain ⟨hc1, hc2⟩ := cut_le l [32]
  have q2 := (op_any (Lib.cut l [32]).1 (by omega)).any (show 8 ≤ d by omega)
  have q3 := (trim_any (Lib.cut l [32]).2.1 [41] (by omega)).any (show 3 ≤ d by omega)
  have hc3 := trim_le (Lib.cut l [32]).2.1 [41]
  have q4 := fun fl H => cut_any (trimSuf (Lib.cut l [32]).2.1 [41]) (by omega) d fl H (by omega)
  obtain ⟨ha1, ha2⟩ := args_ok l
  have ho := opOf_lt (Lib.cut l [32]).1
  have hfew := cut_few _ (trimSuf (Lib.cut l [32]).2.1 [41]) [] (Nat.le_refl _)
  have hne := (cutA_le _ (trimSuf (Lib.cut l [32]).2.1 [41]) [] (Nat.le_refl _)).2
  unfold guessV
  unfold argsOf at ha1 ha2 ⊢
  generalize (Lib.cut l [32]).1 = hd1 at q1 q2 ho ⊢
  generalize hrest : (Lib.cut l [32]).2.1 = rest at q1 q3 q4 ha1 ha2 hfew hne hc2 hc3 ⊢
  generalize (Lib.cut l [32]).2.2 = bb at q1
  generalize (opOf hd1).2.1 = aq at q2 ⊢
  generalize (opOf hd1).2.2 = rl at q2 ⊢
  generalize (opOf hd1).1 = o at q2 ho ⊢
  change (cutL (trimSuf rest [41])).length ≤ _ at hfew
  change cutL (trimSuf rest [41]) ≠ [] at hne
  generalize trimSuf rest [41] = tr at q3 q4 ha1 ha2 hfew hne hc3 ⊢
  have hs := (Run.old3 fun fl H => sort_in fl o H ho).any (show 6 ≤ d by omega)
  show wp P0 (T K d) 0 K _ _ _
  let Z : Box := { cells := [.int .i64 0, .int .i64 0, .int .i64 0, .int .i64 0, .int .i64 0, .bool false, .bool false, .int .i64 0, .int .i64 0] }
  refine lwp_midH [{ cells := [.int .i64 0, .int .i64 0, .int .i64 0, .int .i64 0, .int .i64 0, .bool false, .bool false, .int .i64 0, .int .i64 0] }] (fun env => evO env (.tmp 0) = strV l ∧ evO env (.tmp 2) = .pointer (some ⟨0, 0, some 0⟩)) (by simp) ?_
  rintro env ⟨a0, a2⟩
  refine lwp_midH [{ cells := [.int .i64 0, .int .i64 0, .int .i64 0, .int .i64 0, .int .i64 0, .bool false, .bool false, .int .i64 0, .int .i64 0] }] (fun env => evO env (.tmp 2) = .pointer (some ⟨0, 0, some 0⟩) ∧ evO env (.tmp 3) = strV hd1 ∧ evO env (.tmp 4) = strV rest) (by simp [a0, a2, q1]) ?_
  clear a0 a2
  rintro env ⟨a2, a3, a4⟩
  refine lwp_midH [{ cells := [.int .i64 0, .int .i64 0, .int .i64 0, .int .i64 0, .int .i64 0, .bool false, .bool false, .int .i64 0, .int .i64 0] }, { cells := [.int .i64 o, .int .i64 0, .int .i64 0, .int .i64 0, .int .i64 0, .bool aq, .bool rl, .int .i64 0, .int .i64 0] }] (fun env => evO env (.tmp 2) = .pointer (some ⟨0, 0, some 0⟩) ∧ evO env (.tmp 4) = strV rest ∧ evO env (.tmp 6) = .pointer (some ⟨1, 0, some 0⟩)) (by simp [a2, a3, a4, q2, instV]) ?_
  clear a2 a3 a4
  rintro env ⟨a2, a4, a6⟩
  refine lwp_midH [{ cells := [.int .i64 0, .int .i64 0, .int .i64 0, .int .i64 0, .int .i64 0, .bool false, .bool false, .int .i64 0, .int .i64 0] }, { cells := [.int .i64 o, .int .i64 0, .int .i64 0, .int .i64 0, .int .i64 0, .bool aq, .bool rl, .int .i64 (if o = 51 then 3 else 0), .int .i64 (if o = 51 then 3 else 0)] }] (fun env => evO env (.tmp 2) = .pointer (some ⟨0, 0, some 0⟩) ∧ evO env (.tmp 4) = strV rest ∧ evO env (.tmp 6) = .pointer (some ⟨1, 0, some 0⟩)) ?_ ?_
  · by_cases o51 : o = 51
    · have z : ((o : Int) = 51) = True := by simp; omega
      have y : (o = 51) = True := by simp [o51]
      clear o51
      simp [a2, a4, a6, z, y]
    · have z : ¬ (o : Int) = 51 := by omega
      simp [a2, a4, a6, z, o51]
  clear a2 a4 a6
  rintro env ⟨a2, a4, a6⟩
  unfold guessL
  dsimp only
  generalize (if o = 51 then 3 else 0 : Int) = p0
  have hlist : (cutL tr ++ [[], [], []]).length = (cutL tr).length + 3 := by simp
  have hcl : (cutL tr).length ≠ 0 := by simpa using hne
  have hg : ∀ k, k < 4 → ∃ x, (cutL tr ++ [[], [], []])[k]? = some x ∧ x.length ≤ 1000 := fun k hk => by
    have hlt : k < (cutL tr ++ [[], [], []]).length := by omega
    refine ⟨_, List.getElem?_eq_getElem hlt, ?_⟩
    have := ha2 _ (List.getElem_mem hlt)
    omega
  obtain ⟨x0, g0, n0⟩ := hg 0 (by omega)
  obtain ⟨x1, g1, n1⟩ := hg 1 (by omega)
  obtain ⟨x2, g2, n2⟩ := hg 2 (by omega)
  obtain ⟨x3, g3, n3⟩ := hg 3 (by omega)
  refine lwp_midE (fun env H => ∃ (X : Heap) (j g : Nat), H = { cells := [.int .i64 0, .int .i64 0, .int .i64 0, .int .i64 0, .int .i64 0, .bool false, .bool false, .int .i64 0, .int .i64 0] } :: { cells := [.int .i64 o, .int .i64 0, .int .i64 0, .int .i64 0, .int .i64 0, .bool aq, .bool rl, .int .i64 p0, .int .i64 p0] } :: (X ++ [{ cells := [.slice (some ⟨j + 2, 0, some g⟩) (cutL tr ++ [[], [], []]).length 1] }]) ∧
      rdN X ⟨j, 0, some g⟩ (cutL tr ++ [[], [], []]).length = some ((cutL tr ++ [[], [], []]).map strV) ∧ evO env (.tmp 2) = .pointer (some ⟨0, 0, some 0⟩) ∧ evO env (.tmp 6) = .pointer (some ⟨1, 0, some 0⟩) ∧ evO env (.tmp 7) = .pointer (some ⟨X.length + 2, 0, some 0⟩)) ?_ ?_
  · have hacc : accV 1 2 ([{ cells := [.int .i64 0, .int .i64 0, .int .i64 0, .int .i64 0, .int .i64 0, .bool false, .bool false, .int .i64 0, .int .i64 0] }, { cells := [.int .i64 o, .int .i64 0, .int .i64 0, .int .i64 0, .int .i64 0, .bool aq, .bool rl, .int .i64 p0, .int .i64 p0] }] ++ slH (cutL tr).length 1 ((cutL tr).map strV)) (slV 2 (cutL tr).length 1) ((cutL tr).map strV) (cutL tr).length :=
      .inr ⟨2, 0, { cells := (cutL tr).map strV, gen := 0, row := 1 }, by simp [slV, hcl], Nat.le_refl _, by simp [slH, hcl], rfl, rfl, rfl, rfl, by simp, hcl⟩
    obtain ⟨v', H2, e, hacc', hlow, hle⟩ := app_acc (fl := 0) (bytes := 16) hacc (Nat.zero_le _) (by simp) (src_marker 1 3 _ [strV [], strV [], strV []] rfl) rfl rfl (by decide) (by decide) (by omega) (by omega)
    obtain ⟨X, rfl⟩ := heap2 (H := H2) (b0 := { cells := [.int .i64 0, .int .i64 0, .int .i64 0, .int .i64 0, .int .i64 0, .bool false, .bool false, .int .i64 0, .int .i64 0] }) (b1 := { cells := [.int .i64 o, .int .i64 0, .int .i64 0, .int .i64 0, .int .i64 0, .bool aq, .bool rl, .int .i64 p0, .int .i64 p0] }) (by rw [hlow 0 (by omega)]; rfl) (by rw [hlow 1 (by omega)]; rfl)
    obtain ⟨b, g, rfl, hb2, hbl, hrd⟩ := accV_rd hacc' (by omega)
    obtain ⟨j, rfl⟩ : ∃ j, b = j + 2 := ⟨b - 2, by omega⟩
    have hq4 := q4 0 [{ cells := [.int .i64 0, .int .i64 0, .int .i64 0, .int .i64 0, .int .i64 0, .bool false, .bool false, .int .i64 0, .int .i64 0] }, { cells := [.int .i64 o, .int .i64 0, .int .i64 0, .int .i64 0, .int .i64 0, .bool aq, .bool rl, .int .i64 p0, .int .i64 p0] }]
    simp at q3 hq4 e hrd
    have hz : zeroRow [.string ⟨#[]⟩] 3 = [.string ⟨#[]⟩, .string ⟨#[]⟩, .string ⟨#[]⟩] := rfl
    simp [a2, a4, a6, q3, hq4, hz, fillL, setSeg, e, wrN_app0]
    exact ⟨X, j, g, ⟨rfl, rfl, rfl⟩, by simpa using hrd, rfl⟩
  clear a2 a4 a6
  rintro env _ ⟨X, j, g, rfl, hrd, a2, a6, a7⟩
  have hrd' := rdN_mono [{ cells := [.slice (some ⟨j + 2, 0, some g⟩) (cutL tr ++ [[], [], []]).length 1] }] hrd
  have hsl : rd1 (X ++ [{ cells := [.slice (some ⟨j + 2, 0, some g⟩) (cutL tr ++ [[], [], []]).length 1] }]) ⟨X.length, 0, some 0⟩ = some (.slice (some ⟨j + 2, 0, some g⟩) (cutL tr ++ [[], [], []]).length 1) := by simp
  generalize hLn : (cutL tr ++ [[], [], []]).length = n at hrd hrd' hsl
  generalize cutL tr ++ [[], [], []] = L at hrd' hLn g0 g1 g2 g3 ⊢
  generalize X ++ [{ cells := [.slice (some ⟨j + 2, 0, some g⟩) n 1] }] = Y at hrd' hsl
  have hn4 : 4 ≤ n := by
    have := (List.getElem?_eq_some_iff.1 g3).1
    omega
  have hr : ∀ (b0 b1 : Box) (k : Nat) (x : List UInt8) (fl : Nat), L[k]? = some x → x.length ≤ 1000 → T K d n_show_guess_1 fl [.int .i64 k, .pointer (some ⟨X.length + 2, 0, some 0⟩)] (b0 :: b1 :: Y) = some (.int .i64 (regD x), b0 :: b1 :: Y) := fun b0 b1 k x fl hx hl =>
    guess1_run L _ _ (j + 2) 0 g n k d fl (by omega) (by simpa using hsl) (by simpa using hrd') hLn.symm x hx hl
  have hm : ∀ (b0 b1 : Box) (k : Nat) (x : List UInt8) (fl : Nat), L[k]? = some x → x.length ≤ 1000 → T K d n_show_guess_2 fl [.int .i64 k, .pointer (some ⟨X.length + 2, 0, some 0⟩)] (b0 :: b1 :: Y) = some (.int .i64 (numD x), b0 :: b1 :: Y) := fun b0 b1 k x fl hx hl =>
    guess2_run L _ _ (j + 2) 0 g n k d fl (by omega) (by simpa using hsl) (by simpa using hrd') hLn.symm x hx hl
  have r0 := fun b0 b1 fl => hr b0 b1 0 x0 fl g0 n0
  have r1 := fun b0 b1 fl => hr b0 b1 1 x1 fl g1 n1
  have r2 := fun b0 b1 fl => hr b0 b1 2 x2 fl g2 n2
  have r3 := fun b0 b1 fl => hr b0 b1 3 x3 fl g3 n3
  have m1 := fun b0 b1 fl => hm b0 b1 1 x1 fl g1 n1
  have m2 := fun b0 b1 fl => hm b0 b1 2 x2 fl g2 n2
  have s0 := (asSet_any x0 (by omega)).any (show 1 ≤ d by omega)
  have s1 := (asSet_any x1 (by omega)).any (show 1 ≤ d by omega)
  have t0 : rd1 Y ⟨j, 0, some g⟩ = some (strV x0) := rd1_part (i := 0) hrd' (by simp [g0])
  have t1 : rd1 Y ⟨j, 1, some g⟩ = some (strV x1) := by
    have := rd1_part (i := 1) hrd' (v := strV x1) (by simp [g1])
    simpa using this
  simp at r0 r1 r2 r3 m1 m2
  clear hr hm hrd hrd'
  refine lwp_midH ({ cells := [.int .i64 0, .int .i64 0, .int .i64 0, .int .i64 0, .int .i64 0, .bool false, .bool false, .int .i64 0, .int .i64 0] } :: { cells := [.int .i64 o, .int .i64 0, .int .i64 0, .int .i64 0, .int .i64 0, .bool aq, .bool rl, .int .i64 p0, .int .i64 p0] } :: Y) (fun env => evO env (.tmp 2) = .pointer (some ⟨0, 0, some 0⟩) ∧ evO env (.tmp 6) = .pointer (some ⟨1, 0, some 0⟩) ∧ evO env (.tmp 7) = .pointer (some ⟨X.length + 2, 0, some 0⟩) ∧ evO env (.tmp 8) = .func (.func n_show_guess_1) #[] #[.pointer (some ⟨X.length + 2, 0, some 0⟩)]) (by simp [a2, a6, a7]) ?_
  clear a2 a6 a7
  rintro env ⟨a2, a6, a7, a8⟩
  refine lwp_midH ({ cells := [.int .i64 0, .int .i64 0, .int .i64 0, .int .i64 0, .int .i64 0, .bool false, .bool false, .int .i64 0, .int .i64 0] } :: { cells := [.int .i64 o, .int .i64 0, .int .i64 0, .int .i64 0, .int .i64 0, .bool aq, .bool rl, .int .i64 p0, .int .i64 p0] } :: Y) (fun env => evO env (.tmp 2) = .pointer (some ⟨0, 0, some 0⟩) ∧ evO env (.tmp 6) = .pointer (some ⟨1, 0, some 0⟩) ∧ evO env (.tmp 7) = .pointer (some ⟨X.length + 2, 0, some 0⟩) ∧ evO env (.tmp 8) = .func (.func n_show_guess_1) #[] #[.pointer (some ⟨X.length + 2, 0, some 0⟩)] ∧ evO env (.tmp 9) = .func (.func n_show_guess_2) #[] #[.pointer (some ⟨X.length + 2, 0, some 0⟩)]) (by simp [a2, a6, a7, a8]) ?_
  clear a2 a6 a7 a8
  rintro env ⟨a2, a6, a7, a8, a9⟩
  have hs12 : sortN o ≤ 12 := by
    have : ∀ i : Fin 76, sortN i.val ≤ 12 := by decide
    exact this ⟨o, ho⟩
  have hc : sortN o = 0 ∨ sortN o = 1 ∨ sortN o = 2 ∨ sortN o = 3 ∨ sortN o = 4 ∨ sortN o = 5 ∨ sortN o = 6 ∨ sortN o = 7 ∨ sortN o = 8 ∨ sortN o = 9 ∨ sortN o = 10 ∨ sortN o = 11 ∨ sortN o = 12 := by omega
  have z4 : ((o : Int) = 4) = (o = 4) := by simp; omega
  have z50 : ((o : Int) = 50) = (o = 50) := by simp; omega
  rcases hc with e | e | e | e | e | e | e | e | e | e | e | e | e
  · simp [L_show_guess, a2, a6, a8, a9, hs, e, instV]
  · simp [L_show_guess, a2, a6, a8, a9, hs, e, r0, m1, g0, g1, instV]
  · by_cases o4 : o = 4
    · have z : ((o : Int) = 4) = True := by simp; omega
      have y : (o = 4) = True := by simp [o4]
      clear o4 z4
      simp [L_show_guess, a2, a6, a8, a9, hs, e, r0, r1, m1, m2, g0, g1, g2, z, y, instV]
    · simp [L_show_guess, a2, a6, a8, a9, hs, e, r0, m1, g0, g1, z4, o4, instV]
  · simp [L_show_guess, a2, a6, a8, a9, hs, e, r0, r1, m2, g0, g1, g2, instV]
  · simp [L_show_guess, a2, a6, a8, a9, hs, e, r0, r2, m1, g0, g1, g2, instV]
  · simp [L_show_guess, a2, a6, a8, a9, hs, e, r0, r2, m1, g0, g1, g2, instV]
  · simp [L_show_guess, a2, a6, a8, a9, hs, e, r0, r1, m2, g0, g1, g2, instV]
  · simp [L_show_guess, a2, a6, a8, a9, hs, e, r0, r1, r2, g0, g1, g2, instV]
  · by_cases o50 : o = 50
    · have z : ((o : Int) = 50) = True := by simp; omega
      have y : (o = 50) = True := by simp [o50]
      clear o50 z50
      have hn1 : 0 < n := by omega
      have hn3 : 1 < n := by omega
      have hn2 : (1 : Int) < n := by omega
      simp [L_show_guess, a2, a6, a7, a8, a9, hs, e, z, y, hsl, hn1, hn2, hn3, t0, t1, s0, s1, g0, g1, instV]
    · simp [L_show_guess, a2, a6, a8, a9, hs, e, z50, o50, instV]
  · simp [L_show_guess, a2, a6, a8, a9, hs, e, instV]
  · simp [L_show_guess, a2, a6, a8, a9, hs, e, r0, r2, g0, g2, instV]
  · simp [L_show_guess, a2, a6, a8, a9, hs, e, r0, r1, r3, g0, g1, g3, instV]
  · simp [L_show_guess, a2, a6, a8, a9, hs, e, r0, r1, r3, g0, g1, g3, instV]
end Go.Lev.Seat

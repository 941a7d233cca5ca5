/- ref09.Read: a word of a candidate. -/
import Derived.Test.YtcaogimdpcaohaaGreatDoorHh
set_option linter.unusedVariables false
set_option linter.unusedSimpArgs false
set_option linter.constructorNameAsVariable false

namespace Go.Lev.Seat
open Go Go.Lev
set_option linter.unusedSimpArgs false
set_option linter.unusedVariables false
set_option maxHeartbeats 8000000
set_option maxRecDepth 20000
/-- A part of a text. -/
def subLC : List Nat → LC → LC
  | [], c => c
  | 0 :: p, .seq a _ => subLC p a
  | _ :: p, .seq _ b => subLC p b
  | 0 :: p, .cond _ a _ => subLC p a
  | _ :: p, .cond _ _ b => subLC p b
  | _ :: p, .block _ c => subLC p c
  | _ :: p, .loop c => subLC p c
  | _, c => c
def Ins.cs (i : Ins) : List Value := [.int .i64 i.op, .int .i64 i.rd, .int .i64 i.r1, .int .i64 i.r2, .int .i64 i.imm, .bool i.aq, .bool i.rl, .int .i64 i.p, .int .i64 i.s]
theorem Ins.cs_v (i : Ins) : i.v.cells.toList = i.cs := rfl
/-- What stands fast during a candidate. -/
def RV (l : List UInt8) (W : Value) (o k a n : Nat) (env : Nat → Value) : Prop :=
  evO env (.tmp 0) = strV l ∧ evO env (.tmp 2) = .pointer (some ⟨0, 0, some 0⟩) ∧ evO env (.tmp 4) = W ∧ evO env (.tmp 5) = .int .i64 o ∧ evO env (.tmp 6) = .int .i64 k ∧ evO env (.tmp 7) = .int .i64 a ∧ evO env (.tmp 11) = .int .i64 n
theorem word_step (l : List UInt8) (nw o k a n : Nat) (w : List UInt8) (st : RS) (Y : Heap) (env : Nat → Value) (d : Nat) (hd : 2 ≤ d) (hn : n < nw) (hn2 : nw ≤ 100000) (ho : o < 76) (hw : w.length ≤ 300) (hr : rd1 Y ⟨1, n, some 0⟩ = some (strV w)) (hY : 1 < Y.length) (hk : k = sortN o) (hg : st.regs ≤ n) (hm : st.nums ≤ n) (hV : RV l (.slice (some ⟨1, 0, some 0⟩) nw 1) o k a n env)
    (a8 : evO env (.tmp 8) = .pointer (some ⟨Y.length, 0, some 0⟩)) (a9 : evO env (.tmp 9) = .int .i64 st.regs) (a10 : evO env (.tmp 10) = .int .i64 st.nums) :
    wp P0 (T K d) 0 K (subLC [1, 1, 0, 1, 0, 0, 1, 0, 0, 1, 1, 0, 0, 1, 0, 0, 1, 1, 1, 0, 1, 0, 0, 1, 0] L_ref09_Read.body) (fun r s => r = .normal ∧ s.heap = Y ++ [{ cells := (stepR o k n w st).i.cs }] ∧ RV l (.slice (some ⟨1, 0, some 0⟩) nw 1) o k a n s.env ∧ evO s.env (.tmp 8) = .pointer (some ⟨Y.length, 0, some 0⟩) ∧ evO s.env (.tmp 9) = .int .i64 (stepR o k n w st).regs ∧ evO s.env (.tmp 10) = .int .i64 (stepR o k n w st).nums) ⟨env, Y ++ [{ cells := st.i.cs }]⟩ := by
  show wp P0 (T K d) 0 K (.block 5 _) _ _
  obtain ⟨a0, a2, a4, a5, a6, a7, a11⟩ := hV
  have qR := (refreg_any w hw).any (show 2 ≤ d by omega)
  have qN := (refnum_any w hw).any (show 1 ≤ d by omega)
  have qB := (bits_any w (by omega)).any (show 1 ≤ d by omega)
  have hr1 : ∀ b : Box, rd1 (Y ++ [b]) ⟨1, n, some 0⟩ = some (strV w) := fun b => by rw [rd1_left _ _ _ hY]; exact hr
  have e1 : (n : Int) < (nw : Int) := by omega
  have e50 : ((o : Int) = 50) = (o = 50) := by simp; omega
  have en1 : ((n : Int) = 1) = (n = 1) := by simp; omega
  have en2 : ((n : Int) = 2) = (n = 2) := by simp; omega
  refine lwp_block_of ?_
  refine lwp_midH (Y ++ [{ cells := st.i.cs }]) (fun env => RV l (.slice (some ⟨1, 0, some 0⟩) nw 1) o k a n env ∧ evO env (.tmp 8) = .pointer (some ⟨Y.length, 0, some 0⟩) ∧ evO env (.tmp 9) = .int .i64 st.regs ∧ evO env (.tmp 10) = .int .i64 st.nums ∧ evO env (.tmp 12) = .int .i64 ((refReg w).getD 0) ∧ evO env (.tmp 13) = .bool (refReg w).isSome) ?_ ?_
  · cases hx : refReg w with
    | none =>
      rw [hx] at qR
      simp [RV, a0, a2, a4, a5, a6, a7, a8, a9, a10, a11, e1, hr1, qR, optT]
    | some v =>
      rw [hx] at qR
      simp [RV, a0, a2, a4, a5, a6, a7, a8, a9, a10, a11, e1, hr1, qR, optT]
  clear a0 a2 a4 a5 a6 a7 a8 a9 a10 a11 qR
  rintro env ⟨⟨a0, a2, a4, a5, a6, a7, a11⟩, a8, a9, a10, a12, a13⟩
  refine lwp_midH (Y ++ [{ cells := st.i.cs }]) (fun env => RV l (.slice (some ⟨1, 0, some 0⟩) nw 1) o k a n env ∧ evO env (.tmp 8) = .pointer (some ⟨Y.length, 0, some 0⟩) ∧ evO env (.tmp 9) = .int .i64 st.regs ∧ evO env (.tmp 10) = .int .i64 st.nums ∧ evO env (.tmp 12) = .int .i64 ((refReg w).getD 0) ∧ evO env (.tmp 13) = .bool (refReg w).isSome ∧ evO env (.tmp 14) = .int .i64 ((refNum w).getD 0) ∧ evO env (.tmp 15) = .bool (refNum w).isSome) ?_ ?_
  · cases hx : refNum w with
    | none =>
      rw [hx] at qN
      simp [RV, a0, a2, a4, a5, a6, a7, a8, a9, a10, a11, a12, a13, e1, hr1, qN, optT]
    | some v =>
      rw [hx] at qN
      simp [RV, a0, a2, a4, a5, a6, a7, a8, a9, a10, a11, a12, a13, e1, hr1, qN, optT]
  clear a0 a2 a4 a5 a6 a7 a8 a9 a10 a11 a12 a13 qN
  rintro env ⟨⟨a0, a2, a4, a5, a6, a7, a11⟩, a8, a9, a10, a12, a13, a14, a15⟩
  refine lwp_midH (Y ++ [{ cells := (setP o n w st.i).cs }]) (fun env => RV l (.slice (some ⟨1, 0, some 0⟩) nw 1) o k a n env ∧ evO env (.tmp 8) = .pointer (some ⟨Y.length, 0, some 0⟩) ∧ evO env (.tmp 9) = .int .i64 st.regs ∧ evO env (.tmp 10) = .int .i64 st.nums ∧ evO env (.tmp 12) = .int .i64 ((refReg w).getD 0) ∧ evO env (.tmp 13) = .bool (refReg w).isSome ∧ evO env (.tmp 14) = .int .i64 ((refNum w).getD 0) ∧ evO env (.tmp 15) = .bool (refNum w).isSome) ?_ ?_
  · by_cases o50 : (o = 50) = True
    · by_cases n1 : (n = 1) = True
      · have hr2 : ∀ b : Box, rd1 (Y ++ [b]) ⟨1, n, some 0⟩ = some (strV w) := hr1
        simp [RV, a0, a2, a4, a5, a6, a7, a8, a9, a10, a11, a12, a13, a14, a15, e50, en1, o50, n1, e1, hr1, qB, wrN_app0, Ins.cs, setP]
      · simp at n1
        simp [RV, a0, a2, a4, a5, a6, a7, a8, a9, a10, a11, a12, a13, a14, a15, e50, en1, o50, n1, Ins.cs, setP]
    · simp at o50
      simp [RV, a0, a2, a4, a5, a6, a7, a8, a9, a10, a11, a12, a13, a14, a15, e50, en1, o50, Ins.cs, setP]
  clear a0 a2 a4 a5 a6 a7 a8 a9 a10 a11 a12 a13 a14 a15
  rintro env ⟨⟨a0, a2, a4, a5, a6, a7, a11⟩, a8, a9, a10, a12, a13, a14, a15⟩
  refine lwp_midH (Y ++ [{ cells := (setS o n w (setP o n w st.i)).cs }]) (fun env => RV l (.slice (some ⟨1, 0, some 0⟩) nw 1) o k a n env ∧ evO env (.tmp 8) = .pointer (some ⟨Y.length, 0, some 0⟩) ∧ evO env (.tmp 9) = .int .i64 st.regs ∧ evO env (.tmp 10) = .int .i64 st.nums ∧ evO env (.tmp 12) = .int .i64 ((refReg w).getD 0) ∧ evO env (.tmp 13) = .bool (refReg w).isSome ∧ evO env (.tmp 14) = .int .i64 ((refNum w).getD 0) ∧ evO env (.tmp 15) = .bool (refNum w).isSome) ?_ ?_
  · generalize setP o n w st.i = i1
    by_cases o50 : (o = 50) = True
    · by_cases n1 : (n = 2) = True
      · simp [RV, a0, a2, a4, a5, a6, a7, a8, a9, a10, a11, a12, a13, a14, a15, e50, en2, o50, n1, e1, hr1, qB, wrN_app0, Ins.cs, setS]
      · simp at n1
        simp [RV, a0, a2, a4, a5, a6, a7, a8, a9, a10, a11, a12, a13, a14, a15, e50, en2, o50, n1, Ins.cs, setS]
    · simp at o50
      simp [RV, a0, a2, a4, a5, a6, a7, a8, a9, a10, a11, a12, a13, a14, a15, e50, en2, o50, Ins.cs, setS]
  clear a0 a2 a4 a5 a6 a7 a8 a9 a10 a11 a12 a13 a14 a15
  rintro env ⟨⟨a0, a2, a4, a5, a6, a7, a11⟩, a8, a9, a10, a12, a13, a14, a15⟩
  unfold stepR
  generalize hI : setS o n w (setP o n w st.i) = i2
  have w1 : IntKind.i64.wrap ((st.regs : Int) + 1) = ((st.regs + 1 : Nat) : Int) := by rw [wrap_i64_id] <;> omega
  have w2 : IntKind.i64.wrap ((st.nums : Int) + 1) = ((st.nums + 1 : Nat) : Int) := by rw [wrap_i64_id] <;> omega
  refine lwp_midH (Y ++ [{ cells := (stepReg o k w ⟨st.regs, st.nums, i2⟩).i.cs }]) (fun env => RV l (.slice (some ⟨1, 0, some 0⟩) nw 1) o k a n env ∧ evO env (.tmp 8) = .pointer (some ⟨Y.length, 0, some 0⟩) ∧ evO env (.tmp 9) = .int .i64 (stepReg o k w ⟨st.regs, st.nums, i2⟩).regs ∧ evO env (.tmp 10) = .int .i64 (stepReg o k w ⟨st.regs, st.nums, i2⟩).nums ∧ evO env (.tmp 14) = .int .i64 ((refNum w).getD 0) ∧ evO env (.tmp 15) = .bool (refNum w).isSome) ?_ ?_
  · unfold stepReg
    cases hx : refReg w with
    | none =>
      rw [hx] at a12 a13
      simp only [Option.isSome_none] at a13
      simp [RV, a0, a2, a4, a5, a6, a7, a8, a9, a10, a11, a12, a13, a14, a15]
    | some r =>
      rw [hx] at a12 a13
      simp only [Option.isSome_some, Option.getD_some] at a13 a12
      generalize hg1 : st.regs + 1 = g at w1
      have hk12 : k ≤ 12 := by
        have : ∀ i : Fin 76, sortN i.val ≤ 12 := by decide
        rw [hk]
        exact this ⟨o, ho⟩
      have e4 : ((o : Int) = 4) = (o = 4) := by simp; omega
      clear hk hx e50 en1 en2 hr1 hr
      have hc : k = 0 ∨ k = 1 ∨ k = 2 ∨ k = 3 ∨ k = 4 ∨ k = 5 ∨ k = 6 ∨ k = 7 ∨ k = 8 ∨ k = 9 ∨ k = 10 ∨ k = 11 ∨ k = 12 := by omega
      have hgc : g = 1 ∨ g = 2 ∨ g = 3 ∨ (g ≠ 1 ∧ g ≠ 2 ∧ g ≠ 3) := by omega
      have hg1' : st.regs = g - 1 := by omega
      have w1' : IntKind.i64.wrap ((st.regs : Int) + 1) = (g : Int) := w1
      clear w1 w2 hg hg1 hg1'
      rcases hgc with rfl | rfl | rfl | ⟨g1, g2, g3⟩
      · by_cases o4 : (o = 4) = True
        · rcases hc with rfl | rfl | rfl | rfl | rfl | rfl | rfl | rfl | rfl | rfl | rfl | rfl | rfl <;> simp [RV, a0, a2, a4, a5, a6, a7, a8, a9, a10, a11, a12, a13, a14, a15, w1', e4, o4, putReg, wrN_app0, Ins.cs]
        · simp at o4
          rcases hc with rfl | rfl | rfl | rfl | rfl | rfl | rfl | rfl | rfl | rfl | rfl | rfl | rfl <;> simp [RV, a0, a2, a4, a5, a6, a7, a8, a9, a10, a11, a12, a13, a14, a15, w1', e4, o4, putReg, wrN_app0, Ins.cs]
      · by_cases o4 : (o = 4) = True
        · rcases hc with rfl | rfl | rfl | rfl | rfl | rfl | rfl | rfl | rfl | rfl | rfl | rfl | rfl <;> simp [RV, a0, a2, a4, a5, a6, a7, a8, a9, a10, a11, a12, a13, a14, a15, w1', e4, o4, putReg, wrN_app0, Ins.cs]
        · simp at o4
          rcases hc with rfl | rfl | rfl | rfl | rfl | rfl | rfl | rfl | rfl | rfl | rfl | rfl | rfl <;> simp [RV, a0, a2, a4, a5, a6, a7, a8, a9, a10, a11, a12, a13, a14, a15, w1', e4, o4, putReg, wrN_app0, Ins.cs]
      · rcases hc with rfl | rfl | rfl | rfl | rfl | rfl | rfl | rfl | rfl | rfl | rfl | rfl | rfl <;> simp [RV, a0, a2, a4, a5, a6, a7, a8, a9, a10, a11, a12, a13, a14, a15, w1', putReg, wrN_app0, Ins.cs]
      · have i1 : ¬ (g : Int) = 1 := by omega
        have i2 : ¬ (g : Int) = 2 := by omega
        have i3 : ¬ (g : Int) = 3 := by omega
        simp [RV, a0, a2, a4, a5, a6, a7, a8, a9, a10, a11, a12, a13, a14, a15, w1', putReg, wrN_app0, Ins.cs, i1, i2, i3, g1, g2, g3]
  clear a0 a2 a4 a5 a6 a7 a8 a9 a10 a11 a12 a13 a14 a15
  rintro env ⟨⟨a0, a2, a4, a5, a6, a7, a11⟩, a8, a9, a10, a14, a15⟩
  have hnn : (stepReg o k w ⟨st.regs, st.nums, i2⟩).nums = st.nums := by
    unfold stepReg
    split <;> rfl
  generalize hI2 : stepReg o k w ⟨st.regs, st.nums, i2⟩ = st2 at a9 a10 hnn ⊢
  rw [hnn] at a10
  have e0 : ((st.nums : Int) + 1 = 1) = (st.nums = 0) := by simp; omega
  unfold stepNum
  cases hx : refNum w with
  | none =>
    rw [hx] at a14 a15
    simp only [Option.isSome_none] at a15
    simp [RV, a0, a2, a4, a5, a6, a7, a8, a9, a10, a11, a14, a15, hnn]
  | some x =>
    rw [hx] at a14 a15
    simp only [Option.isSome_some, Option.getD_some] at a15 a14
    by_cases o50 : (o = 50) = True
    · simp [RV, a0, a2, a4, a5, a6, a7, a8, a9, a10, a11, a14, a15, e50, o50, hnn]
    · simp at o50
      by_cases n0 : st.nums = 0
      · have w3 : IntKind.i64.wrap ((0 : Int) + 1) = 1 := by decide
        rw [n0] at a10 w2 hnn
        simp [RV, a0, a2, a4, a5, a6, a7, a8, a9, a10, a11, a14, a15, e50, o50, hnn, wrN_app0, Ins.cs]
      · simp [RV, a0, a2, a4, a5, a6, a7, a8, a9, a10, a11, a14, a15, e50, o50, hnn, w2, n0, e0]
end Go.Lev.Seat

/- Reading a right instruction's text gives it back. (Plain: no run of the program.) -/
import Derived.Test.YtcaogimdpcaohaaGreatDoorHg
set_option linter.unusedVariables false
set_option linter.unusedSimpArgs false
set_option linter.constructorNameAsVariable false

namespace Go.Lev.Seat
open Go Go.Lev
set_option linter.unusedSimpArgs false
set_option linter.unusedVariables false
set_option maxHeartbeats 4000000
/-- Letters that stand in no part's border. -/
def inner (l : List UInt8) : Bool := l.all fun b => b != 44 && b != 40 && b != 41 && b != 32
theorem inner_digits (u : Nat) : inner (Lib.decDigits u) = true := by
  induction u using Nat.strongRecOn with
  | _ u ih =>
    have hd : ∀ d : Nat, d < 10 → inner [UInt8.ofNat (48 + d)] = true := by
      intro d hd
      have : ∀ i : Fin 10, inner [UInt8.ofNat (48 + i.val)] = true := by decide
      exact this ⟨d, hd⟩
    by_cases h : u < 10
    · rw [decDigits_small h]; exact hd u h
    · rw [decDigits_big h]
      have h1 := ih (u / 10) (by omega)
      have h2 := hd (u % 10) (by omega)
      simp only [inner, List.all_append, Bool.and_eq_true] at h1 h2 ⊢
      exact ⟨h1, h2⟩
theorem inner_itoa (n : Int) : inner (Lib.itoa n) = true := by
  unfold Lib.itoa
  split
  · have := inner_digits n.natAbs
    simp only [inner, List.all_cons, Bool.and_eq_true] at this ⊢
    exact ⟨by decide, this⟩
  · exact inner_digits _
theorem itoa_ne (n : Int) : Lib.itoa n ≠ [] := by
  unfold Lib.itoa
  split
  · simp
  · exact decDigits_ne _
theorem inner_reg (n : Int) : inner (regT n) = true := by
  have := inner_itoa n
  simp only [inner, regT, List.all_cons, Bool.and_eq_true] at this ⊢
  exact ⟨by decide, this⟩
theorem inner_set (n : Nat) (h : n < 16) : inner (setN n) = true ∧ setN n ≠ [] := by
  have : ∀ i : Fin 16, inner (setN i.val) = true ∧ setN i.val ≠ [] := by decide
  exact this ⟨n, h⟩
theorem cutA_inner : ∀ (a cur r : List UInt8), inner a = true → cutA cur (a ++ 44 :: 32 :: r) = (cur ++ a) :: cutA [] r ∧ cutA cur (a ++ 40 :: r) = (cur ++ a) :: cutA [] r ∧ cutA cur a = [cur ++ a]
  | [], cur, r, _ => ⟨by simp [cutA_44], by simp [cutA_40], by simp [cutA]⟩
  | b :: a, cur, r, h => by
    simp only [inner, List.all_cons, Bool.and_eq_true, bne_iff_ne, ne_eq] at h
    obtain ⟨⟨⟨⟨h1, h2⟩, h3⟩, h4⟩, h5⟩ := h
    obtain ⟨i1, i2, i3⟩ := cutA_inner a (cur ++ [b]) r h5
    have hp : ∀ x, ¬ hasPre (b :: x) [44, 32] = true := fun x hx => by
      obtain ⟨r, hr⟩ := (pre_44 _).1 hx
      exact h1 (List.cons.inj hr).1
    refine ⟨?_, ?_, ?_⟩
    · rw [List.cons_append, cutA_other _ _ _ (hp _) h2, i1]; simp
    · rw [List.cons_append, cutA_other _ _ _ (hp _) h2, i2]; simp
    · rw [cutA_other _ _ _ (hp _) h2, i3]; simp
theorem trim_inner (a p : List UInt8) (h : inner p = true) (hne : p ≠ []) : trimSuf (a ++ p) [41] = a ++ p := by
  unfold trimSuf
  rw [if_neg]
  rw [hasSuf_iff]
  rintro ⟨r, hr⟩
  have h1 : (a ++ p).getLast? = some 41 := by rw [hr]; simp
  have h2 : (a ++ p).getLast? = p.getLast? := by
    rw [List.getLast?_append]
    cases hp : p.getLast? with
    | none => exact absurd (List.getLast?_eq_none_iff.1 hp) hne
    | some x => rfl
  rw [h2] at h1
  have hm := List.mem_of_getLast? h1
  have := List.all_eq_true.1 h 41 hm
  simp at this
theorem cut_blank (a b : List UInt8) (h : inner a = true) : Lib.cut (a ++ 32 :: b) [32] = (a, b, true) := by
  have hi : Lib.index (a ++ 32 :: b) [32] = a.length := by
    refine Lib.index_first (i := a.length) (by simp) (by simp [Lib.occAt]) fun j hj => ?_
    simp only [Lib.occAt]
    rw [List.drop_append_of_le_length (by omega), List.drop_eq_getElem_cons hj, List.cons_append]
    have hx := List.all_eq_true.1 h a[j] (List.getElem_mem hj)
    simp only [Bool.and_eq_true, bne_iff_ne, ne_eq] at hx
    have hne : ¬ (32 : UInt8) = a[j] := fun e => hx.2 e.symm
    show ((32 == a[j]) && _) = false
    simp [hne]
  unfold Lib.cut
  rw [hi]
  simp
theorem cut_none (a : List UInt8) (h : inner a = true) : Lib.cut a [32] = (a, [], false) := by
  have hi : Lib.index a [32] = -1 := by
    refine Lib.index_none fun j hj => ?_
    simp only [Lib.occAt]
    rcases Nat.lt_or_ge j a.length with hj | hj
    · rw [List.drop_eq_getElem_cons hj]
      have hx := List.all_eq_true.1 h a[j] (List.getElem_mem hj)
      simp only [Bool.and_eq_true, bne_iff_ne, ne_eq] at hx
      have hne : ¬ (32 : UInt8) = a[j] := fun e => hx.2 e.symm
      show ((32 == a[j]) && _) = false
      simp [hne]
    · rw [List.drop_eq_nil_of_le hj]
      rfl
  unfold Lib.cut
  rw [hi]
  simp
theorem regD_regT (n : Int) (h : 0 ≤ n ∧ n ≤ 31) : regD (regT n) = n := by
  have h1 : hasPre (regT n) [120] = true := by simp [hasPre, regT]
  have h2 : num (Lib.itoa n) = some n := num_itoa n (by omega) (by omega)
  simp [regD, reg, h1]
  simp [regT, h2, h]
theorem numD_itoa (n : Int) (h : i64 n) : numD (Lib.itoa n) = n := by
  simp [numD, num_itoa n h.1 h.2]
theorem asSet_set (n : Nat) (h : n < 16) : asSetN (setN n) = n := by
  have : ∀ i : Fin 16, asSetN (setN i.val) = i.val := by decide
  exact this ⟨n, h⟩
theorem op_names : ∀ i : Fin 76, 1 ≤ i.val → ∀ aq rl : Bool, (sortN i.val < 10 → aq = false ∧ rl = false) → opOf (nameT i.val aq rl) = (i.val, aq, rl) ∧ inner (nameT i.val aq rl) = true := by decide +kernel
/-- Which fields each sort has. -/
theorem sort_has : ∀ i : Fin 76, (sortN i.val = 1 → fiN i.val = false ∧ seN i.val = false) ∧ (sortN i.val = 2 → seN i.val = false ∧ (i.val = 3 ∨ i.val = 4) ∧ (i.val = 3 → fiN i.val = false)) ∧ (sortN i.val = 3 → wrN' i.val = false) ∧ (sortN i.val = 4 → seN i.val = false) ∧ (sortN i.val = 5 → wrN' i.val = false) ∧ (sortN i.val = 6 → seN i.val = false) ∧
    (sortN i.val = 8 → (i.val = 50 ∨ i.val = 51) ∧ wrN' i.val = false ∧ fiN i.val = false ∧ seN i.val = false) ∧ (sortN i.val = 9 → wrN' i.val = false ∧ fiN i.val = false ∧ seN i.val = false) ∧ (sortN i.val = 10 → seN i.val = false) ∧ (7 ≤ sortN i.val → shiftN i.val = 0 ∧ formN i.val = 0) ∧ (sortN i.val ≠ 8 → i.val ≠ 50 ∧ i.val ≠ 51) ∧ (sortN i.val = 0 → i.val = 0) ∧ sortN i.val ≤ 12 := by decide +kernel
theorem guess_text (o : Nat) (ho : o < 76) (rd r1 r2 imm p s : Int) (aq rl : Bool) (him : i64 imm) (h : rightC o rd r1 r2 imm aq rl p s = true) : guessV (textN o rd r1 r2 imm aq rl p s) = instV o rd r1 r2 imm aq rl p s := by
  simp only [rightC, regsB, ownB, Bool.and_eq_true, Bool.or_eq_true, Bool.not_eq_true', decide_eq_true_eq, decide_eq_false_iff_not] at h
  obtain ⟨⟨⟨⟨hs0, ⟨⟨⟨⟨⟨a1, a2⟩, a3⟩, a4⟩, a5⟩, a6⟩⟩, ⟨⟨⟨b1, b2⟩, b3⟩, b4⟩⟩, him2⟩, hset⟩ := h
  have ho1 : 1 ≤ o := by
    rcases Nat.eq_zero_or_pos o with rfl | h
    · exact absurd rfl hs0
    · exact h
  obtain ⟨hop, hin⟩ := op_names ⟨o, ho⟩ ho1 aq rl fun hlt => by
    rcases b4 with b4 | b4
    · exact absurd hlt b4
    · exact b4
  obtain ⟨c1, c2, c3, c4, c5, c6, c8, c9, c10, c7, cn8, c0, c12⟩ := sort_has ⟨o, ho⟩
  simp only at hop hin c1 c2 c3 c4 c5 c6 c8 c9 c10 c7 cn8 c0 c12
  have rr1 := regD_regT rd ⟨a1, a2⟩
  have rr2 := regD_regT r1 ⟨a3, a4⟩
  have rr3 := regD_regT r2 ⟨a5, a6⟩
  have rr4 := numD_itoa imm him
  have k1 := inner_reg rd
  have k2 := inner_reg r1
  have k3 := inner_reg r2
  have k4 := inner_itoa imm
  have i4 := itoa_ne imm
  have v1 : regT rd ≠ [] := by simp [regT]
  have v2 : regT r1 ≠ [] := by simp [regT]
  have v3 : regT r2 ≠ [] := by simp [regT]
  -- what a text with parts is read as
  have key : ∀ (rest : List UInt8) (L : List (List UInt8)), cutL (trimSuf rest [41]) = L → guessV (nameT o aq rl ++ 32 :: rest) = guessL o aq rl (L ++ [[], [], []]) := fun rest L hL => by
    unfold guessV argsOf
    rw [cut_blank _ _ hin]
    simp only [hop, hL]
  have key0 : guessV (nameT o aq rl) = guessL o aq rl ([[]] ++ [[], [], []]) := by
    unfold guessV argsOf
    rw [cut_none _ hin]
    simp only [hop]
    rfl
  have hp0 : sortN o ≠ 8 → p = 0 ∧ s = 0 := fun h8 => by
    obtain ⟨x, y⟩ := cn8 h8
    simpa [setsB, x, y] using hset
  have him0 : 7 ≤ sortN o → imm = 0 := fun h7 => by
    obtain ⟨x, y⟩ := c7 h7
    simpa [immB, x, y] using him2
  have hc : sortN o = 1 ∨ sortN o = 2 ∨ sortN o = 3 ∨ sortN o = 4 ∨ sortN o = 5 ∨ sortN o = 6 ∨ sortN o = 7 ∨ sortN o = 8 ∨ sortN o = 9 ∨ sortN o = 10 ∨ sortN o = 11 ∨ sortN o = 12 := by omega
  unfold textN
  rcases hc with e | e | e | e | e | e | e | e | e | e | e | e
  · obtain ⟨f1, f2⟩ := c1 e
    obtain ⟨rfl, rfl⟩ := hp0 (by omega)
    have z1 : r1 = 0 := by simpa [f1] using b2
    have z2 : r2 = 0 := by simpa [f2] using b3
    obtain ⟨n50, n51⟩ := cn8 (by omega)
    have hp : partsN o rd r1 r2 imm 0 0 = [regT rd, Lib.itoa imm] := by simp [partsN, e]
    rw [hp, if_neg (by simp)]
    have hj : Lib.join [regT rd, Lib.itoa imm] [44, 32] = regT rd ++ 44 :: 32 :: Lib.itoa imm := by simp [Lib.join]
    rw [hj, key _ [regT rd, Lib.itoa imm] (by
      have : regT rd ++ 44 :: 32 :: Lib.itoa imm = (regT rd ++ [44, 32]) ++ Lib.itoa imm := by simp
      rw [this, trim_inner _ _ k4 i4, ← this]
      unfold cutL
      rw [(cutA_inner _ _ _ k1).1, (cutA_inner _ _ [] k4).2.2]
      simp)]
    simp [guessL, e, rr1, rr4, z1, z2, n51]
  · obtain ⟨f2, f34, f1⟩ := c2 e
    obtain ⟨rfl, rfl⟩ := hp0 (by omega)
    have z2 : r2 = 0 := by simpa [f2] using b3
    rcases f34 with rfl | rfl
    · have z1 : r1 = 0 := by simpa [f1 rfl] using b2
      have hp : partsN 3 rd r1 r2 imm 0 0 = [regT rd, Lib.itoa imm] := by simp [partsN, e]
      rw [hp, if_neg (by simp)]
      have hj : Lib.join [regT rd, Lib.itoa imm] [44, 32] = regT rd ++ 44 :: 32 :: Lib.itoa imm := by simp [Lib.join]
      rw [hj, key _ [regT rd, Lib.itoa imm] (by
        have : regT rd ++ 44 :: 32 :: Lib.itoa imm = (regT rd ++ [44, 32]) ++ Lib.itoa imm := by simp
        rw [this, trim_inner _ _ k4 i4, ← this]
        unfold cutL
        rw [(cutA_inner _ _ _ k1).1, (cutA_inner _ _ [] k4).2.2]
        simp)]
      simp [guessL, e, rr1, rr4, z1, z2]
    · have hp : partsN 4 rd r1 r2 imm 0 0 = [regT rd, regT r1, Lib.itoa imm] := by simp [partsN, e]
      rw [hp, if_neg (by simp)]
      have hj : Lib.join [regT rd, regT r1, Lib.itoa imm] [44, 32] = regT rd ++ 44 :: 32 :: (regT r1 ++ 44 :: 32 :: Lib.itoa imm) := by simp [Lib.join]
      rw [hj, key _ [regT rd, regT r1, Lib.itoa imm] (by
        have : regT rd ++ 44 :: 32 :: (regT r1 ++ 44 :: 32 :: Lib.itoa imm) = (regT rd ++ 44 :: 32 :: (regT r1 ++ [44, 32])) ++ Lib.itoa imm := by simp
        rw [this, trim_inner _ _ k4 i4, ← this]
        unfold cutL
        rw [(cutA_inner _ _ _ k1).1, (cutA_inner _ _ _ k2).1, (cutA_inner _ _ [] k4).2.2]
        simp)]
      simp [guessL, e, rr1, rr2, rr4, z2]
  · obtain ⟨rfl, rfl⟩ := hp0 (by omega)
    have z0 : rd = 0 := by simpa [c3 e] using b1
    obtain ⟨n50, n51⟩ := cn8 (by omega)
    have hp : partsN o rd r1 r2 imm 0 0 = [regT r1, regT r2, Lib.itoa imm] := by simp [partsN, e]
    rw [hp, if_neg (by simp)]
    have hj : Lib.join [regT r1, regT r2, Lib.itoa imm] [44, 32] = regT r1 ++ 44 :: 32 :: (regT r2 ++ 44 :: 32 :: Lib.itoa imm) := by simp [Lib.join]
    rw [hj, key _ [regT r1, regT r2, Lib.itoa imm] (by
      have : regT r1 ++ 44 :: 32 :: (regT r2 ++ 44 :: 32 :: Lib.itoa imm) = (regT r1 ++ 44 :: 32 :: (regT r2 ++ [44, 32])) ++ Lib.itoa imm := by simp
      rw [this, trim_inner _ _ k4 i4, ← this]
      unfold cutL
      rw [(cutA_inner _ _ _ k2).1, (cutA_inner _ _ _ k3).1, (cutA_inner _ _ [] k4).2.2]
      simp)]
    simp [guessL, e, rr2, rr3, rr4, z0, n51]
  · obtain ⟨rfl, rfl⟩ := hp0 (by omega)
    have z0 : r2 = 0 := by simpa [c4 e] using b3
    obtain ⟨n50, n51⟩ := cn8 (by omega)
    have hp : partsN o rd r1 r2 imm 0 0 = [regT rd, Lib.itoa imm ++ 40 :: regT r1 ++ [41]] := by simp [partsN, e]
    rw [hp, if_neg (by simp)]
    have hj : Lib.join [regT rd, Lib.itoa imm ++ 40 :: regT r1 ++ [41]] [44, 32] = (regT rd ++ 44 :: 32 :: (Lib.itoa imm ++ 40 :: regT r1)) ++ [41] := by simp [Lib.join]
    rw [hj, key _ [regT rd, Lib.itoa imm, regT r1] (by
      rw [trimSuf_app]
      unfold cutL
      rw [(cutA_inner _ _ _ k1).1, (cutA_inner _ _ _ k4).2.1, (cutA_inner _ _ [] k2).2.2]
      simp)]
    simp [guessL, e, rr1, rr2, rr4, z0, n51]
  · obtain ⟨rfl, rfl⟩ := hp0 (by omega)
    have z0 : rd = 0 := by simpa [c5 e] using b1
    obtain ⟨n50, n51⟩ := cn8 (by omega)
    have hp : partsN o rd r1 r2 imm 0 0 = [regT r2, Lib.itoa imm ++ 40 :: regT r1 ++ [41]] := by simp [partsN, e]
    rw [hp, if_neg (by simp)]
    have hj : Lib.join [regT r2, Lib.itoa imm ++ 40 :: regT r1 ++ [41]] [44, 32] = (regT r2 ++ 44 :: 32 :: (Lib.itoa imm ++ 40 :: regT r1)) ++ [41] := by simp [Lib.join]
    rw [hj, key _ [regT r2, Lib.itoa imm, regT r1] (by
      rw [trimSuf_app]
      unfold cutL
      rw [(cutA_inner _ _ _ k3).1, (cutA_inner _ _ _ k4).2.1, (cutA_inner _ _ [] k2).2.2]
      simp)]
    simp [guessL, e, rr3, rr2, rr4, z0, n51]
  · obtain ⟨rfl, rfl⟩ := hp0 (by omega)
    have z0 : r2 = 0 := by simpa [c6 e] using b3
    obtain ⟨n50, n51⟩ := cn8 (by omega)
    have hp : partsN o rd r1 r2 imm 0 0 = [regT rd, regT r1, Lib.itoa imm] := by simp [partsN, e]
    rw [hp, if_neg (by simp)]
    have hj : Lib.join [regT rd, regT r1, Lib.itoa imm] [44, 32] = regT rd ++ 44 :: 32 :: (regT r1 ++ 44 :: 32 :: Lib.itoa imm) := by simp [Lib.join]
    rw [hj, key _ [regT rd, regT r1, Lib.itoa imm] (by
      have : regT rd ++ 44 :: 32 :: (regT r1 ++ 44 :: 32 :: Lib.itoa imm) = (regT rd ++ 44 :: 32 :: (regT r1 ++ [44, 32])) ++ Lib.itoa imm := by simp
      rw [this, trim_inner _ _ k4 i4, ← this]
      unfold cutL
      rw [(cutA_inner _ _ _ k1).1, (cutA_inner _ _ _ k2).1, (cutA_inner _ _ [] k4).2.2]
      simp)]
    simp [guessL, e, rr1, rr2, rr4, z0, n51]
  · obtain ⟨rfl, rfl⟩ := hp0 (by omega)
    obtain rfl := him0 (by omega)
    obtain ⟨n50, n51⟩ := cn8 (by omega)
    have hp : partsN o rd r1 r2 0 0 0 = [regT rd, regT r1, regT r2] := by simp [partsN, e]
    rw [hp, if_neg (by simp)]
    have hj : Lib.join [regT rd, regT r1, regT r2] [44, 32] = regT rd ++ 44 :: 32 :: (regT r1 ++ 44 :: 32 :: regT r2) := by simp [Lib.join]
    rw [hj, key _ [regT rd, regT r1, regT r2] (by
      have : regT rd ++ 44 :: 32 :: (regT r1 ++ 44 :: 32 :: regT r2) = (regT rd ++ 44 :: 32 :: (regT r1 ++ [44, 32])) ++ regT r2 := by simp
      rw [this, trim_inner _ _ k3 v3, ← this]
      unfold cutL
      rw [(cutA_inner _ _ _ k1).1, (cutA_inner _ _ _ k2).1, (cutA_inner _ _ [] k3).2.2]
      simp)]
    simp [guessL, e, rr1, rr2, rr3, n51]
  · obtain ⟨f5, f0, f1, f2⟩ := c8 e
    obtain rfl := him0 (by omega)
    have z0 : rd = 0 := by simpa [f0] using b1
    have z1 : r1 = 0 := by simpa [f1] using b2
    have z2 : r2 = 0 := by simpa [f2] using b3
    obtain ⟨rfl, rfl⟩ : aq = false ∧ rl = false := by
      rcases b4 with b4 | b4
      · omega
      · exact b4
    rcases f5 with rfl | rfl
    · have hs2 : 0 ≤ p ∧ p ≤ 15 ∧ 0 ≤ s ∧ s ≤ 15 := by simp [setsB] at hset; omega
      obtain ⟨w1, w2⟩ := inner_set p.toNat (by omega)
      obtain ⟨w3, w4⟩ := inner_set s.toNat (by omega)
      have hp : partsN 50 rd r1 r2 0 p s = [setN p.toNat, setN s.toNat] := by simp [partsN, e]
      rw [hp, if_neg (by simp)]
      have hj : Lib.join [setN p.toNat, setN s.toNat] [44, 32] = setN p.toNat ++ 44 :: 32 :: setN s.toNat := by simp [Lib.join]
      rw [hj, key _ [setN p.toNat, setN s.toNat] (by
        have : setN p.toNat ++ 44 :: 32 :: setN s.toNat = (setN p.toNat ++ [44, 32]) ++ setN s.toNat := by simp
        rw [this, trim_inner _ _ w3 w4, ← this]
        unfold cutL
        rw [(cutA_inner _ _ _ w1).1, (cutA_inner _ _ [] w3).2.2]
        simp)]
      have y1 := asSet_set p.toNat (by omega)
      have y2 := asSet_set s.toNat (by omega)
      have y3 : ((p.toNat : Nat) : Int) = p := Int.toNat_of_nonneg (by omega)
      have y4 : ((s.toNat : Nat) : Int) = s := Int.toNat_of_nonneg (by omega)
      simp only [guessL, e]
      simp [y1, y2, y3, y4, z0, z1, z2]
    · have hs2 : p = 3 ∧ s = 3 := by simpa [setsB] using hset
      have hp : partsN 51 rd r1 r2 0 p s = [] := by simp [partsN, e]
      rw [hp, if_pos rfl, key0]
      simp [guessL, e, z0, z1, z2, hs2]
  · obtain ⟨f0, f1, f2⟩ := c9 e
    obtain rfl := him0 (by omega)
    obtain ⟨rfl, rfl⟩ := hp0 (by omega)
    obtain ⟨n50, n51⟩ := cn8 (by omega)
    have z0 : rd = 0 := by simpa [f0] using b1
    have z1 : r1 = 0 := by simpa [f1] using b2
    have z2 : r2 = 0 := by simpa [f2] using b3
    have hp : partsN o rd r1 r2 0 0 0 = [] := by simp [partsN, e]
    rw [hp, if_pos rfl, key0]
    simp [guessL, e, z0, z1, z2, n51]
  · obtain rfl := him0 (by omega)
    obtain ⟨rfl, rfl⟩ := hp0 (by omega)
    obtain ⟨n50, n51⟩ := cn8 (by omega)
    have z2 : r2 = 0 := by simpa [c10 e] using b3
    have hp : partsN o rd r1 r2 0 0 0 = [regT rd, 40 :: regT r1 ++ [41]] := by simp [partsN, e]
    rw [hp, if_neg (by simp)]
    have hj : Lib.join [regT rd, 40 :: regT r1 ++ [41]] [44, 32] = (regT rd ++ 44 :: 32 :: ([] ++ 40 :: regT r1)) ++ [41] := by simp [Lib.join]
    rw [hj, key _ [regT rd, [], regT r1] (by
      rw [trimSuf_app]
      unfold cutL
      rw [(cutA_inner _ _ _ k1).1, (cutA_inner [] _ _ rfl).2.1, (cutA_inner _ _ [] k2).2.2]
      simp)]
    simp [guessL, e, rr1, rr2, z2, n51]
  · obtain rfl := him0 (by omega)
    obtain ⟨rfl, rfl⟩ := hp0 (by omega)
    obtain ⟨n50, n51⟩ := cn8 (by omega)
    have hp : partsN o rd r1 r2 0 0 0 = [regT rd, regT r2, 40 :: regT r1 ++ [41]] := by simp [partsN, e]
    rw [hp, if_neg (by simp)]
    have hj : Lib.join [regT rd, regT r2, 40 :: regT r1 ++ [41]] [44, 32] = (regT rd ++ 44 :: 32 :: (regT r2 ++ 44 :: 32 :: ([] ++ 40 :: regT r1))) ++ [41] := by simp [Lib.join]
    rw [hj, key _ [regT rd, regT r2, [], regT r1] (by
      rw [trimSuf_app]
      unfold cutL
      rw [(cutA_inner _ _ _ k1).1, (cutA_inner _ _ _ k3).1, (cutA_inner [] _ _ rfl).2.1, (cutA_inner _ _ [] k2).2.2]
      simp)]
    simp [guessL, e, rr1, rr2, rr3, n51]
  · obtain rfl := him0 (by omega)
    obtain ⟨rfl, rfl⟩ := hp0 (by omega)
    obtain ⟨n50, n51⟩ := cn8 (by omega)
    have hp : partsN o rd r1 r2 0 0 0 = [regT rd, regT r2, 40 :: regT r1 ++ [41]] := by simp [partsN, e]
    rw [hp, if_neg (by simp)]
    have hj : Lib.join [regT rd, regT r2, 40 :: regT r1 ++ [41]] [44, 32] = (regT rd ++ 44 :: 32 :: (regT r2 ++ 44 :: 32 :: ([] ++ 40 :: regT r1))) ++ [41] := by simp [Lib.join]
    rw [hj, key _ [regT rd, regT r2, [], regT r1] (by
      rw [trimSuf_app]
      unfold cutL
      rw [(cutA_inner _ _ _ k1).1, (cutA_inner _ _ _ k3).1, (cutA_inner [] _ _ rfl).2.1, (cutA_inner _ _ [] k2).2.2]
      simp)]
    simp [guessL, e, rr1, rr2, rr3, n51]
end Go.Lev.Seat


namespace Go.Lev.Seat
open Go Go.Lev
set_option linter.unusedSimpArgs false
set_option linter.unusedVariables false
set_option maxHeartbeats 4000000
structure Ins where
  op : Int
  rd : Int
  r1 : Int
  r2 : Int
  imm : Int
  aq : Bool
  rl : Bool
  p : Int
  s : Int
def Ins.v (i : Ins) : Value := instV i.op i.rd i.r1 i.r2 i.imm i.aq i.rl i.p i.s
def Ins.right (i : Ins) : Bool := rightI i.op i.rd i.r1 i.r2 i.imm i.aq i.rl i.p i.s
def Ins.text (i : Ins) : List UInt8 := textI i.op i.rd i.r1 i.r2 i.imm i.aq i.rl i.p i.s
def Ins.zero : Ins := ⟨0, 0, 0, 0, 0, false, false, 0, 0⟩
def Ins.same (i k : Ins) : Bool := i.op == k.op && (i.rd == k.rd && (i.r1 == k.r1 && (i.r2 == k.r2 && (i.imm == k.imm && (i.aq == k.aq && (i.rl == k.rl && (i.p == k.p && i.s == k.s)))))))
theorem Ins.same_iff (i k : Ins) : i.same k = true ↔ i = k := by
  cases i; cases k
  simp [Ins.same]
theorem Ins.eq_V (i k : Ins) (neg : Bool) : eqAV [(0, 0), (1, 0), (2, 0), (3, 0), (4, 0), (5, 1), (6, 1), (7, 0), (8, 0)] neg i.v k.v = some (.bool (if neg then !(i.same k) else i.same k)) := by
  simp [eqAV, eqAll, cmpAt, cellEq, instV, Ins.v, Ins.same]
theorem Ins.sc (i : Ins) : isSc i.v = true := inst_sc _ _ _ _ _ _ _ _ _
theorem Ins.size (i : Ins) : i.v.cells.size = 9 := rfl
theorem Ins.one (i : Ins) : i.v.cells.toList.all Value.oneCell' = true := by simp [Ins.v, instV]
theorem Ins.one9 (i : Ins) : i.v.cells.all (fun a => a.oneCell') 0 9 = true := by simp [Ins.v, instV]
theorem Ins.agg (i : Ins) : Value.agg i.v.cells = i.v := rfl
theorem regD_ok (l : List UInt8) : i64 (regD l) := by
  unfold regD reg
  split
  · split
    · split
      · rename_i v _ h; constructor <;> simp <;> omega
      · exact ⟨by decide, by decide⟩
    · exact ⟨by decide, by decide⟩
  · exact ⟨by decide, by decide⟩
theorem numD_ok (l : List UInt8) : i64 (numD l) := by
  unfold numD
  cases h : num l with
  | none => exact ⟨by decide, by decide⟩
  | some v => exact ((num_iff l v).1 h).2
def guessIL (o : Nat) (aq rl : Bool) (L : List (List UInt8)) : Ins :=
  let p0 : Int := if o = 51 then 3 else 0
  let r := fun (k : Nat) => regD (L[k]?.getD [])
  let m := fun (k : Nat) => numD (L[k]?.getD [])
  if sortN o = 1 then ⟨o, r 0, 0, 0, m 1, aq, rl, p0, p0⟩ else
  if sortN o = 2 then (if o = 4 then ⟨o, r 0, r 1, 0, m 2, aq, rl, p0, p0⟩ else ⟨o, r 0, 0, 0, m 1, aq, rl, p0, p0⟩) else
  if sortN o = 6 then ⟨o, r 0, r 1, 0, m 2, aq, rl, p0, p0⟩ else
  if sortN o = 3 then ⟨o, 0, r 0, r 1, m 2, aq, rl, p0, p0⟩ else
  if sortN o = 4 then ⟨o, r 0, r 2, 0, m 1, aq, rl, p0, p0⟩ else
  if sortN o = 5 then ⟨o, 0, r 2, r 0, m 1, aq, rl, p0, p0⟩ else
  if sortN o = 7 then ⟨o, r 0, r 1, r 2, 0, aq, rl, p0, p0⟩ else
  if sortN o = 8 then (if o = 50 then ⟨o, 0, 0, 0, 0, aq, rl, asSetN (L[0]?.getD []), asSetN (L[1]?.getD [])⟩ else ⟨o, 0, 0, 0, 0, aq, rl, p0, p0⟩) else
  if sortN o = 10 then ⟨o, r 0, r 2, 0, 0, aq, rl, p0, p0⟩ else
  if sortN o = 11 ∨ sortN o = 12 then ⟨o, r 0, r 3, r 1, 0, aq, rl, p0, p0⟩ else ⟨o, 0, 0, 0, 0, aq, rl, p0, p0⟩
def guessI (l : List UInt8) : Ins := guessIL (opOf (Lib.cut l [32]).1).1 (opOf (Lib.cut l [32]).1).2.1 (opOf (Lib.cut l [32]).1).2.2 (argsOf l)
theorem guessIL_v (o : Nat) (aq rl : Bool) (L : List (List UInt8)) : guessL o aq rl L = (guessIL o aq rl L).v := by
  unfold guessL guessIL
  dsimp only
  by_cases h1 : sortN o = 1
  · simp [h1, Ins.v]
  by_cases h2 : sortN o = 2
  · by_cases q : o = 4
    · subst q; rfl
    · simp [h1, h2, q, Ins.v]
  by_cases h6 : sortN o = 6
  · simp [h1, h2, h6, Ins.v]
  by_cases h3 : sortN o = 3
  · simp [h1, h2, h6, h3, Ins.v]
  by_cases h4 : sortN o = 4
  · simp [h1, h2, h6, h3, h4, Ins.v]
  by_cases h5 : sortN o = 5
  · simp [h1, h2, h6, h3, h4, h5, Ins.v]
  by_cases h7 : sortN o = 7
  · simp [h1, h2, h6, h3, h4, h5, h7, Ins.v]
  by_cases h8 : sortN o = 8
  · by_cases q : o = 50
    · subst q; rfl
    · simp [h1, h2, h6, h3, h4, h5, h7, h8, q, Ins.v]
  by_cases h10 : sortN o = 10
  · simp [h1, h2, h6, h3, h4, h5, h7, h8, h10, Ins.v]
  by_cases q : sortN o = 11 ∨ sortN o = 12
  · simp [h1, h2, h6, h3, h4, h5, h7, h8, h10, q, Ins.v]
  · simp [h1, h2, h6, h3, h4, h5, h7, h8, h10, q, Ins.v]
theorem guessI_v (l : List UInt8) : guessV l = (guessI l).v := guessIL_v _ _ _ _
theorem guessIL_imm (o : Nat) (ho : i64 (o : Nat)) (aq rl : Bool) (L : List (List UInt8)) : i64 (guessIL o aq rl L).imm ∧ i64 (guessIL o aq rl L).op := by
  have h0 : i64 0 := ⟨by decide, by decide⟩
  unfold guessIL
  dsimp only
  by_cases h1 : sortN o = 1
  · rw [if_pos h1]
    first | exact ⟨numD_ok _, ho⟩ | exact ⟨h0, ho⟩
  by_cases h2 : sortN o = 2
  · rw [if_neg h1, if_pos h2]
    split
    · exact ⟨numD_ok _, ho⟩
    · exact ⟨numD_ok _, ho⟩
  by_cases h6 : sortN o = 6
  · rw [if_neg h1, if_neg h2, if_pos h6]
    first | exact ⟨numD_ok _, ho⟩ | exact ⟨h0, ho⟩
  by_cases h3 : sortN o = 3
  · rw [if_neg h1, if_neg h2, if_neg h6, if_pos h3]
    first | exact ⟨numD_ok _, ho⟩ | exact ⟨h0, ho⟩
  by_cases h4 : sortN o = 4
  · rw [if_neg h1, if_neg h2, if_neg h6, if_neg h3, if_pos h4]
    first | exact ⟨numD_ok _, ho⟩ | exact ⟨h0, ho⟩
  by_cases h5 : sortN o = 5
  · rw [if_neg h1, if_neg h2, if_neg h6, if_neg h3, if_neg h4, if_pos h5]
    first | exact ⟨numD_ok _, ho⟩ | exact ⟨h0, ho⟩
  by_cases h7 : sortN o = 7
  · rw [if_neg h1, if_neg h2, if_neg h6, if_neg h3, if_neg h4, if_neg h5, if_pos h7]
    first | exact ⟨numD_ok _, ho⟩ | exact ⟨h0, ho⟩
  by_cases h8 : sortN o = 8
  · rw [if_neg h1, if_neg h2, if_neg h6, if_neg h3, if_neg h4, if_neg h5, if_neg h7, if_pos h8]
    split
    · exact ⟨h0, ho⟩
    · exact ⟨h0, ho⟩
  by_cases h10 : sortN o = 10
  · rw [if_neg h1, if_neg h2, if_neg h6, if_neg h3, if_neg h4, if_neg h5, if_neg h7, if_neg h8, if_pos h10]
    first | exact ⟨numD_ok _, ho⟩ | exact ⟨h0, ho⟩
  rw [if_neg h1, if_neg h2, if_neg h6, if_neg h3, if_neg h4, if_neg h5, if_neg h7, if_neg h8, if_neg h10]
  split
  · exact ⟨h0, ho⟩
  · exact ⟨h0, ho⟩
theorem guessI_imm (l : List UInt8) : i64 (guessI l).imm ∧ i64 (guessI l).op := guessIL_imm _ (by have ho := opOf_lt (Lib.cut l [32]).1; exact ⟨by omega, by omega⟩) _ _ _
theorem Ins.v_inj {i k : Ins} (h : i.v = k.v) : i = k := by
  cases i; cases k
  simp only [Ins.v, instV, Value.agg.injEq, Array.mk.injEq, List.cons.injEq, Value.int.injEq, Value.bool.injEq] at h
  simp_all
theorem guess_back (i : Ins) (hm : i64 i.imm) (h : i.right = true) : guessI i.text = i := by
  obtain ⟨h1, h2, _⟩ := right_says h
  have h3 : rightC i.op.toNat i.rd i.r1 i.r2 i.imm i.aq i.rl i.p i.s = true := by
    simp only [Ins.right, rightI, Bool.and_eq_true] at h
    exact h.2
  have := guess_text i.op.toNat (by omega) i.rd i.r1 i.r2 i.imm i.p i.s i.aq i.rl hm h3
  rw [Int.toNat_of_nonneg (by omega)] at this
  apply Ins.v_inj
  rw [← guessI_v]
  exact this
def readV (l : List UInt8) : Value := if (guessI l).right = true ∧ (guessI l).text = l then .tuple #[(guessI l).v, .int .i64 0] else .tuple #[Ins.zero.v, .int .i64 5]
theorem readV_sc (l : List UInt8) : isScT (readV l) = true := by
  unfold readV
  split <;> simp [Ins.sc]
theorem read_any (l : List UInt8) (hl : l.length ≤ 900) : Run 11 n_show_Read [strV l] (readV l) := by
  refine Run.text (F := L_show_Read) (fun _ _ => rfl) rfl rfl (by simp [L_show_Read]) (readV_sc l) fun d hd => ?_
  have hg := (guess_any l hl).any hd
  rw [guessI_v] at hg
  obtain ⟨hm, hop⟩ := guessI_imm l
  have hR := (right_any (guessI l).op (guessI l).rd (guessI l).r1 (guessI l).r2 (guessI l).imm (guessI l).aq (guessI l).rl (guessI l).p (guessI l).s hm).any (show 9 ≤ d by omega)
  have hT := fun h => (text_any (guessI l).op (guessI l).rd (guessI l).r1 (guessI l).r2 (guessI l).imm (guessI l).aq (guessI l).rl (guessI l).p (guessI l).s hm h).any (show 9 ≤ d by omega)
  change ∀ fl H, T K d n_encode_Right fl [(guessI l).v] H = some (.bool (guessI l).right, H) at hR
  change (guessI l).right = true → ∀ fl H, T K d n_show_text fl [(guessI l).v] H = some (strV (guessI l).text, H) at hT
  have z0 : Ins.zero.v.cells.toList = [.int .i64 0, .int .i64 0, .int .i64 0, .int .i64 0, .int .i64 0, .bool false, .bool false, .int .i64 0, .int .i64 0] := rfl
  have z1 : Ins.zero.v = .agg #[.int .i64 0, .int .i64 0, .int .i64 0, .int .i64 0, .int .i64 0, .bool false, .bool false, .int .i64 0, .int .i64 0] := rfl
  unfold readV
  generalize guessI l = i at hg hR hT ⊢
  have hsz := i.size
  have hone := i.one9
  have hag := i.agg
  have htk : List.take 9 i.v.cells.toList = i.v.cells.toList := rfl
  generalize i.v = V at hg hR hT hsz hone hag htk ⊢
  cases hr : i.right with
  | false =>
    rw [hr] at hR
    simp [L_show_Read, retQ_pair, hg, hsz, hone, hag, htk, hR, z1, fillV, fillL]
  | true =>
    rw [hr] at hR
    have hT := hT hr
    by_cases ht : i.text = l
    · simp [L_show_Read, retQ_pair, hg, hsz, hone, hag, htk, hR, hT, ht]
    · simp [L_show_Read, retQ_pair, hg, hsz, hone, hag, htk, hR, hT, ht, z1, fillV, fillL]
end Go.Lev.Seat


namespace Go.Lev.Seat
open Go Go.Lev
set_option linter.unusedSimpArgs false
set_option linter.unusedVariables false
set_option maxHeartbeats 4000000
/-- Letters, digits, dots, minus signs. -/
def wordB (b : UInt8) : Bool := (decide (97 ≤ b.toNat) && decide (b.toNat ≤ 122)) || (decide (48 ≤ b.toNat) && decide (b.toNat ≤ 57)) || decide (b = 46) || decide (b = 45)
def testB (l : List UInt8) (i : Nat) : Bool := match l[i]? with | some b => wordB b | none => false
theorem testB_some {l : List UInt8} {i : Nat} {b : UInt8} (h : l[i]? = some b) : testB l i = wordB b := by simp [testB, h]
theorem testB_none {l : List UInt8} {i : Nat} (h : l[i]? = none) : testB l i = false := by simp [testB, h]
def wordsA : List UInt8 → List UInt8 → List (List UInt8)
  | cur, [] => if cur = [] then [] else [cur]
  | cur, b :: r => if wordB b then wordsA (cur ++ [b]) r else if cur = [] then wordsA [] r else cur :: wordsA [] r
def wordsL (l : List UInt8) : List (List UInt8) := wordsA [] l
theorem words_any (l : List UInt8) (hl : l.length ≤ 90000) (d fl : Nat) (H : Heap) (hd : 1 ≤ d) :
    T K d n_ref09_words fl [strV l] H = some (slV H.length (wordsL l).length 1, H ++ slH (wordsL l).length 1 ((wordsL l).map strV)) := by
  obtain ⟨d, rfl⟩ : ∃ e, d = e + 1 := ⟨d - 1, by omega⟩
  refine tab_own (F := L_ref09_words) rfl rfl (by simp [L_ref09_words]) ?_
  show wp P0 (T K d) H.length K _ _ _
  refine lwp_midH H (fun env => evO env (.tmp 0) = strV l) (by simp) fun env a0 => ?_
  refine lwp_midH H (fun env => evO env (.tmp 0) = strV l ∧ evO env (.tmp 3) = .slice none 0 0) (by simp [a0]) ?_
  clear a0
  rintro env ⟨a0, a3⟩
  refine lwp_midH H (fun env => evO env (.tmp 0) = strV l ∧ evO env (.tmp 3) = .slice none 0 0 ∧ evO env (.tmp 4) = strV []) (by simp [a0, a3]) ?_
  clear a0 a3
  rintro env ⟨a0, a3, a4⟩
  refine lwp_midE (fun env H' => ∃ v, evO env (.tmp 3) = v ∧ accV 1 H.length H' v ((wordsL l).map strV) (wordsL l).length) ?_ ?_
  · refine lwp_midH H (fun env => evO env (.tmp 0) = strV l ∧ evO env (.tmp 3) = .slice none 0 0 ∧ evO env (.tmp 4) = strV [] ∧ evO env (.tmp 5) = .int .i64 0) (by simp [a0, a3, a4]) ?_
    clear a0 a3 a4
    rintro env ⟨a0, a3, a4, a5⟩
    refine lwp_block_of (lwp_loopE (fun m env H' => ∃ (i : Nat) (cur : List UInt8) (ws : List (List UInt8)), i + m = l.length + 2 ∧ 0 < m ∧ ws.length ≤ i ∧ cur.length ≤ i ∧ H.length ≤ H'.length ∧ evO env (.tmp 0) = strV l ∧ evO env (.tmp 4) = strV cur ∧ evO env (.tmp 5) = .int .i64 i ∧
        accV 1 H.length H' (evO env (.tmp 3)) (ws.map strV) ws.length ∧ (if i ≤ l.length then ws ++ wordsA cur (l.drop i) else ws) = wordsL l)
      (l.length + 2) ?_ ⟨0, [], [], by omega, by omega, by simp, by simp, Nat.le_refl _, a0, a4, a5, by rw [a3]; exact accV_nil _ _ _, by simp [wordsL]⟩ (by have : K = 100000 := rfl; omega))
    clear a0 a3 a4 a5
    rintro m env H' ⟨i, cur, ws, hi, hm0, hwl, hcl, hHl, a0, a4, a5, hacc, hw⟩ hm
    generalize h3 : evO env (.tmp 3) = v3 at hacc
    by_cases hil : i ≤ l.length
    · have e1 : (i : Int) ≤ (l.length : Int) := by omega
      have w1 : IntKind.i64.wrap ((i : Int) + 1) = ((i + 1 : Nat) : Int) := by rw [wrap_i64_id] <;> omega
      rw [if_pos hil] at hw
      refine lwp_midH H' (fun env => evO env (.tmp 0) = strV l ∧ evO env (.tmp 3) = v3 ∧ evO env (.tmp 4) = strV cur ∧ evO env (.tmp 5) = .int .i64 i) (by simp [a0, h3, a4, a5, e1]) ?_
      clear a0 h3 a4 a5
      rintro env ⟨a0, a3, a4, a5⟩
      refine lwp_midE (fun env H2 => evO env (.tmp 0) = strV l ∧ evO env (.tmp 5) = .int .i64 i ∧ H.length ≤ H2.length ∧ ∃ (cur' : List UInt8) (ws' : List (List UInt8)), ws'.length ≤ i + 1 ∧ cur'.length ≤ i + 1 ∧ evO env (.tmp 4) = strV cur' ∧
        accV 1 H.length H2 (evO env (.tmp 3)) (ws'.map strV) ws'.length ∧ (if i + 1 ≤ l.length then ws' ++ wordsA cur' (l.drop (i + 1)) else ws') = wordsL l) ?_ ?_
      · refine lwp_block_of (lwp_seq_of ?_)
        refine lwp_midH H' (fun env => evO env (.tmp 0) = strV l ∧ evO env (.tmp 3) = v3 ∧ evO env (.tmp 4) = strV cur ∧ evO env (.tmp 5) = .int .i64 i ∧ evO env (.tmp 51) = .bool (testB l i)) ?_ ?_
        · by_cases hlt : i < l.length
          · have e2 : (i : Int) < (l.length : Int) := by omega
            have hg : l[i]? = some l[i] := List.getElem?_eq_getElem hlt
            generalize l[i] = b at hg
            have hb46 : (b = 46) = (b.toNat = 46) := by rw [← UInt8.toNat_inj]; rfl
            have hb45 : (b = 45) = (b.toNat = 45) := by rw [← UInt8.toNat_inj]; rfl
            have ht : testB l i = ((decide (97 ≤ b.toNat) && decide (b.toNat ≤ 122)) || (decide (48 ≤ b.toNat) && decide (b.toNat ≤ 57)) || decide (b.toNat = 46) || decide (b.toNat = 45)) := by
              rw [testB_some hg]
              unfold wordB
              simp only [hb46, hb45]
            rw [ht]
            clear hb46 hb45 ht
            have hc : (97 ≤ b.toNat ∧ b.toNat ≤ 122) ∨ 122 < b.toNat ∨ (57 < b.toNat ∧ b.toNat < 97) ∨ (48 ≤ b.toNat ∧ b.toNat ≤ 57) ∨ b.toNat = 46 ∨ b.toNat = 45 ∨ b.toNat = 47 ∨ b.toNat < 45 := by omega
            rcases hc with ⟨h1, h2⟩ | h | ⟨h1, h2⟩ | ⟨h1, h2⟩ | h | h | h | h
            · have f1 : (97 : Int) ≤ (b.toNat : Int) := by omega
              have f2 : (b.toNat : Int) ≤ 122 := by omega
              simp [a0, a3, a4, a5, e2, hg, f1, f2, h1, h2]
            · have f1 : (97 : Int) ≤ (b.toNat : Int) := by omega
              have f2 : ¬ (b.toNat : Int) ≤ 122 := by omega
              have f3 : (48 : Int) ≤ (b.toNat : Int) := by omega
              have f4 : ¬ (b.toNat : Int) ≤ 57 := by omega
              have f5 : ¬ (b.toNat : Int) = 46 := by omega
              have f6 : ¬ (b.toNat : Int) = 45 := by omega
              have g2 : ¬ b.toNat ≤ 122 := by omega
              have g4 : ¬ b.toNat ≤ 57 := by omega
              have g5 : ¬ b.toNat = 46 := by omega
              have g6 : ¬ b.toNat = 45 := by omega
              simp [a0, a3, a4, a5, e2, hg, f1, f2, f3, f4, f5, f6, g2, g4, g5, g6]
            · have f1 : ¬ (97 : Int) ≤ (b.toNat : Int) := by omega
              have f3 : (48 : Int) ≤ (b.toNat : Int) := by omega
              have f4 : ¬ (b.toNat : Int) ≤ 57 := by omega
              have f5 : ¬ (b.toNat : Int) = 46 := by omega
              have f6 : ¬ (b.toNat : Int) = 45 := by omega
              have g1 : ¬ 97 ≤ b.toNat := by omega
              have g4 : ¬ b.toNat ≤ 57 := by omega
              have g5 : ¬ b.toNat = 46 := by omega
              have g6 : ¬ b.toNat = 45 := by omega
              simp [a0, a3, a4, a5, e2, hg, f1, f3, f4, f5, f6, g1, g4, g5, g6]
            · have f1 : ¬ (97 : Int) ≤ (b.toNat : Int) := by omega
              have f3 : (48 : Int) ≤ (b.toNat : Int) := by omega
              have f4 : (b.toNat : Int) ≤ 57 := by omega
              simp [a0, a3, a4, a5, e2, hg, f1, f3, f4, h1, h2]
            · simp [a0, a3, a4, a5, e2, hg, h]
            · simp [a0, a3, a4, a5, e2, hg, h]
            · simp [a0, a3, a4, a5, e2, hg, h]
            · have f1 : ¬ (97 : Int) ≤ (b.toNat : Int) := by omega
              have f3 : ¬ (48 : Int) ≤ (b.toNat : Int) := by omega
              have f5 : ¬ (b.toNat : Int) = 46 := by omega
              have f6 : ¬ (b.toNat : Int) = 45 := by omega
              have g1 : ¬ 97 ≤ b.toNat := by omega
              have g3 : ¬ 48 ≤ b.toNat := by omega
              have g5 : ¬ b.toNat = 46 := by omega
              have g6 : ¬ b.toNat = 45 := by omega
              simp [a0, a3, a4, a5, e2, hg, f1, f3, f5, f6, g1, g3, g5, g6]
          · have e2 : ¬ (i : Int) < (l.length : Int) := by omega
            have hg : l[i]? = none := List.getElem?_eq_none (by omega)
            simp [a0, a3, a4, a5, e2, hg, testB_none hg]
        clear a0 a3 a4 a5
        rintro env ⟨a0, a3, a4, a5, a51⟩
        by_cases hlt : i < l.length
        · have hg : l[i]? = some l[i] := List.getElem?_eq_getElem hlt
          have hdr : l.drop i = l[i] :: l.drop (i + 1) := List.drop_eq_getElem_cons hlt
          rw [hdr] at hw
          rw [testB_some hg] at a51
          have s1 := slcTV_seg l .i64 .i64 i (i + 1) (by omega) (by omega)
          have hseg : (l.drop i).take (i + 1 - i) = [l[i]] := by rw [hdr, Nat.add_sub_cancel_left]; rfl
          rw [hseg, show ((i + 1 : Nat) : Int) = (i : Int) + 1 from by simp] at s1
          cases hb : wordB l[i] with
          | true =>
            rw [hb] at a51
            rw [wordsA, if_pos hb] at hw
            have sa := bv_sadd cur [l[i]] (by simp; omega)
            simp [a0, a3, a4, a5, a51, w1, s1, sa]
            exact ⟨hHl, _, _, by omega, by simp; omega, rfl, hacc, by rw [if_pos (by omega)]; exact hw⟩
          | false =>
            rw [hb] at a51
            rw [wordsA, if_neg (by simp [hb])] at hw
            by_cases hcur : cur = []
            · subst hcur
              rw [if_pos rfl] at hw
              simp [a0, a3, a4, a5, a51]
              exact ⟨hHl, [], ws, by omega, by simp, rfl, hacc, by rw [if_pos (by omega)]; exact hw⟩
            · rw [if_neg hcur] at hw
              have e3 : 0 < cur.length := List.length_pos_iff.2 hcur
              obtain ⟨v', H2, e, hacc', _, hle⟩ := app_str (s := ⟨cur.toArray⟩) hacc (Nat.le_refl _) hHl (by omega)
              simp [a0, a3, a4, a5, a51, e3, zeroRow, fillL, e]
              exact ⟨by omega, [], ws ++ [cur], by simp; omega, by simp, rfl, by simpa using hacc', by rw [if_pos (by omega)]; simpa using hw⟩
        · have hie : i = l.length := by omega
          have hg : l[i]? = none := List.getElem?_eq_none (by omega)
          rw [testB_none hg] at a51
          have hd0 : l.drop i = [] := List.drop_eq_nil_of_le (by omega)
          rw [hd0, wordsA] at hw
          by_cases hcur : cur = []
          · subst hcur
            rw [if_pos rfl] at hw
            simp [a0, a3, a4, a5, a51]
            exact ⟨hHl, [], ws, by omega, by simp, rfl, hacc, by rw [if_neg (by omega)]; simpa using hw⟩
          · rw [if_neg hcur] at hw
            have e3 : 0 < cur.length := List.length_pos_iff.2 hcur
            obtain ⟨v', H2, e, hacc', _, hle⟩ := app_str (s := ⟨cur.toArray⟩) hacc (Nat.le_refl _) hHl (by omega)
            simp [a0, a3, a4, a5, a51, e3, zeroRow, fillL, e]
            exact ⟨by omega, [], ws ++ [cur], by simp; omega, by simp, rfl, by simpa using hacc', by rw [if_neg (by omega)]; exact hw⟩
      clear a0 a3 a4 a5
      rintro env H2 ⟨a0, a5, hl2, cur', ws', q1, q2, a4, hacc', hw'⟩
      simp [a5, w1]
      exact ⟨m - 1, by omega, i + 1, by omega, by omega, cur', ws', q1, q2, hl2, by simpa using a0, by simpa using a4, by simp, by simpa using hacc', hw'⟩
    · have e1 : ¬ (i : Int) ≤ (l.length : Int) := by omega
      rw [if_neg hil] at hw
      subst hw
      simp [a0, h3, a4, a5, e1]
      exact hacc
  clear a0 a3 a4
  rintro env H' ⟨v, rfl, hacc⟩
  have ho := accV_own hacc (by simp)
  simp [L_ref09_words]
  exact ho
end Go.Lev.Seat


namespace Go.Lev.Seat
open Go Go.Lev
set_option linter.unusedSimpArgs false
set_option linter.unusedVariables false
set_option maxHeartbeats 4000000
def bitStep (n : Nat) (b : UInt8) : Nat := if b = 105 then n ||| 8 else if b = 111 then n ||| 4 else if b = 114 then n ||| 2 else if b = 119 then n ||| 1 else n
def bitsN (l : List UInt8) : Nat := l.foldl bitStep 0
theorem bitStep_lt (n : Nat) (b : UInt8) (h : n < 16) : bitStep n b < 16 := by
  have h1 : ∀ i : Fin 16, (i.val ||| 8) < 16 ∧ (i.val ||| 4) < 16 ∧ (i.val ||| 2) < 16 ∧ (i.val ||| 1) < 16 := by decide
  have := h1 ⟨n, h⟩
  simp only at this
  unfold bitStep
  repeat' split
  all_goals omega
theorem or_tab : ∀ i : Fin 16, IntKind.i64.wrap ((BitVec.ofInt 64 (i.val : Nat) ||| BitVec.ofInt 64 8).toNat : Int) = ((i.val ||| 8 : Nat) : Int) ∧ IntKind.i64.wrap ((BitVec.ofInt 64 (i.val : Nat) ||| BitVec.ofInt 64 4).toNat : Int) = ((i.val ||| 4 : Nat) : Int) ∧
    IntKind.i64.wrap ((BitVec.ofInt 64 (i.val : Nat) ||| BitVec.ofInt 64 2).toNat : Int) = ((i.val ||| 2 : Nat) : Int) ∧ IntKind.i64.wrap ((BitVec.ofInt 64 (i.val : Nat) ||| BitVec.ofInt 64 1).toNat : Int) = ((i.val ||| 1 : Nat) : Int) := by decide
theorem bitStep_of (n : Nat) (b : UInt8) : ((b.toNat : Int) = 105 → bitStep n b = n ||| 8) ∧ (¬ (b.toNat : Int) = 105 → (b.toNat : Int) = 111 → bitStep n b = n ||| 4) ∧ (¬ (b.toNat : Int) = 105 → ¬ (b.toNat : Int) = 111 → (b.toNat : Int) = 114 → bitStep n b = n ||| 2) ∧
    (¬ (b.toNat : Int) = 105 → ¬ (b.toNat : Int) = 111 → ¬ (b.toNat : Int) = 114 → (b.toNat : Int) = 119 → bitStep n b = n ||| 1) ∧ (¬ (b.toNat : Int) = 105 → ¬ (b.toNat : Int) = 111 → ¬ (b.toNat : Int) = 114 → ¬ (b.toNat : Int) = 119 → bitStep n b = n) := by
  have e : ∀ c : UInt8, ((b.toNat : Int) = (c.toNat : Int)) ↔ b = c := fun c => by
    rw [← UInt8.toNat_inj]; omega
  have e1 := e 105
  have e2 := e 111
  have e3 := e 114
  have e4 := e 119
  simp only [UInt8.reduceToNat, Int.cast_ofNat_Int] at e1 e2 e3 e4
  unfold bitStep
  refine ⟨fun h => ?_, fun h1 h => ?_, fun h1 h2 h => ?_, fun h1 h2 h3 h => ?_, fun h1 h2 h3 h4 => ?_⟩
  · rw [if_pos (e1.1 h)]
  · rw [if_neg (fun x => h1 (e1.2 x)), if_pos (e2.1 h)]
  · rw [if_neg (fun x => h1 (e1.2 x)), if_neg (fun x => h2 (e2.2 x)), if_pos (e3.1 h)]
  · rw [if_neg (fun x => h1 (e1.2 x)), if_neg (fun x => h2 (e2.2 x)), if_neg (fun x => h3 (e3.2 x)), if_pos (e4.1 h)]
  · rw [if_neg (fun x => h1 (e1.2 x)), if_neg (fun x => h2 (e2.2 x)), if_neg (fun x => h3 (e3.2 x)), if_neg (fun x => h4 (e4.2 x))]
theorem bits_any (l : List UInt8) (hl : l.length ≤ 90000) : Run 1 n_ref09_bits [strV l] (.int .i64 (bitsN l : Nat)) := by
  refine Run.text (F := L_ref09_bits) (fun _ _ => rfl) rfl rfl (by simp [L_ref09_bits]) rfl fun d hd => ?_
  show wp P0 (T K d) 0 K _ _ _
  refine lwp_midH [] (fun env => evO env (.tmp 0) = strV l) (by simp) fun env a0 => ?_
  refine lwp_midH [] (fun env => evO env (.tmp 0) = strV l ∧ evO env (.tmp 3) = .int .i64 0) (by simp [a0]) ?_
  clear a0
  rintro env ⟨a0, a3⟩
  refine lwp_midE (fun env _ => evO env (.tmp 3) = .int .i64 (bitsN l : Nat)) ?_ ?_
  · refine lwp_midH [] (fun env => evO env (.tmp 0) = strV l ∧ evO env (.tmp 3) = .int .i64 0 ∧ evO env (.tmp 4) = .int .i64 0) (by simp [a0, a3]) ?_
    clear a0 a3
    rintro env ⟨a0, a3, a4⟩
    refine lwp_block_of (lwp_loopE (fun m env H' => ∃ (i n : Nat), i + m = l.length ∧ n < 16 ∧ evO env (.tmp 0) = strV l ∧ evO env (.tmp 3) = .int .i64 n ∧ evO env (.tmp 4) = .int .i64 i ∧ (l.drop i).foldl bitStep n = bitsN l)
      l.length ?_ ⟨0, 0, by omega, by omega, a0, a3, a4, rfl⟩ (by have : K = 100000 := rfl; omega))
    clear a0 a3 a4
    rintro m env H' ⟨i, n, hi, hn, a0, a3, a4, hb⟩ hm
    have w1 : IntKind.i64.wrap ((i : Int) + 1) = ((i + 1 : Nat) : Int) := by rw [wrap_i64_id] <;> omega
    by_cases hlt : i < l.length
    · have e2 : (i : Int) < (l.length : Int) := by omega
      have hg : l[i]? = some l[i] := List.getElem?_eq_getElem hlt
      have hdr : l.drop i = l[i] :: l.drop (i + 1) := List.drop_eq_getElem_cons hlt
      rw [hdr, List.foldl_cons] at hb
      obtain ⟨t8, t4, t2, t1⟩ := or_tab ⟨n, hn⟩
      simp at t8 t4 t2 t1
      have hlt16 := bitStep_lt n l[i] hn
      generalize l[i] = b at hg hb hlt16
      have fin : ∀ n' : Nat, n' = bitStep n b → ∃ m', m' < m ∧ ∃ i' n'' : Nat, i' + m' = l.length ∧ n'' < 16 ∧ (n' : Int) = n'' ∧ (i : Int) + 1 = i' ∧ (l.drop i').foldl bitStep n'' = bitsN l := fun n' h => by
        subst h
        exact ⟨m - 1, by omega, i + 1, _, by omega, hlt16, rfl, by simp, hb⟩
      obtain ⟨q1, q2, q3, q4, q5⟩ := bitStep_of n b
      by_cases c1 : (b.toNat : Int) = 105
      · rw [q1 c1] at fin
        simp [a0, a3, a4, e2, hg, w1, c1, t8]
        simpa using fin
      by_cases c2 : (b.toNat : Int) = 111
      · rw [q2 c1 c2] at fin
        simp [a0, a3, a4, e2, hg, w1, c1, c2, t4]
        simpa using fin
      by_cases c3 : (b.toNat : Int) = 114
      · rw [q3 c1 c2 c3] at fin
        simp [a0, a3, a4, e2, hg, w1, c1, c2, c3, t2]
        simpa using fin
      by_cases c4 : (b.toNat : Int) = 119
      · rw [q4 c1 c2 c3 c4] at fin
        simp [a0, a3, a4, e2, hg, w1, c1, c2, c3, c4, t1]
        simpa using fin
      · rw [q5 c1 c2 c3 c4] at fin
        simp [a0, a3, a4, e2, hg, w1, c1, c2, c3, c4]
        simpa using fin
    · have e2 : ¬ (i : Int) < (l.length : Int) := by omega
      rw [List.drop_eq_nil_of_le (by omega)] at hb
      simp only [List.foldl_nil] at hb
      simp [a0, a3, a4, e2, hb]
  clear a0 a3
  rintro env H a3
  simp [L_ref09_bits, a3]
theorem refnum_any (l : List UInt8) (hl : l.length ≤ 300) : Run 1 n_ref09_Number [strV l] (optT (refNum l)) := fun d fl H hd => by
  obtain ⟨e, rfl⟩ : ∃ e, d = e + 1 := ⟨d - 1, by omega⟩
  exact refnum_run K e fl l H (by decide) hl
theorem refreg_any (l : List UInt8) (hl : l.length ≤ 300) : Run 2 n_ref09_Register [strV l] (optT (refReg l)) := fun d fl H hd => by
  obtain ⟨e, rfl⟩ : ∃ e, d = e + 2 := ⟨d - 2, by omega⟩
  exact refreg_run K e fl l H (by decide) hl
/-- A candidate, so far. -/
structure RS where
  regs : Nat
  nums : Nat
  i : Ins
def putReg (o k g : Nat) (r : Int) (i : Ins) : Ins :=
  if (g = 1 ∧ k = 3) ∨ (g = 2 ∧ (o = 4 ∨ k = 4 ∨ k = 5 ∨ k = 6 ∨ k = 7 ∨ k = 10)) ∨ (g = 3 ∧ 10 < k) then { i with r1 := r } else
  if (g = 1 ∧ k = 5) ∨ (g = 2 ∧ (k = 3 ∨ 10 < k)) ∨ (g = 3 ∧ k = 7) then { i with r2 := r } else
  if g = 1 then { i with rd := r } else i
def setP (o n : Nat) (w : List UInt8) (i : Ins) : Ins := if o = 50 ∧ n = 1 then { i with p := (bitsN w : Nat) } else i
def setS (o n : Nat) (w : List UInt8) (i : Ins) : Ins := if o = 50 ∧ n = 2 then { i with s := (bitsN w : Nat) } else i
def stepReg (o k : Nat) (w : List UInt8) (st : RS) : RS := match refReg w with
  | some r => ⟨st.regs + 1, st.nums, putReg o k (st.regs + 1) r st.i⟩
  | none => st
def stepNum (o : Nat) (w : List UInt8) (st : RS) : RS := match refNum w with
  | some x => if o = 50 then st else ⟨st.regs, st.nums + 1, if st.nums + 1 = 1 then { st.i with imm := x } else st.i⟩
  | none => st
def stepR (o k n : Nat) (w : List UInt8) (st : RS) : RS := stepNum o w (stepReg o k w { st with i := setS o n w (setP o n w st.i) })
def foldR (o k : Nat) : Nat → List (List UInt8) → RS → RS
  | _, [], st => st
  | n, w :: ws, st => foldR o k (n + 1) ws (stepR o k n w st)
def begR (o a : Nat) : RS := ⟨0, 0, ⟨o, 0, 0, 0, 0, decide (a % 2 = 1), decide (1 < a), if o = 51 then 3 else 0, if o = 51 then 3 else 0⟩⟩
def candI (o a : Nat) (ws : List (List UInt8)) : Ins := (foldR o (sortN o) 1 (ws.drop 1) (begR o a)).i
end Go.Lev.Seat

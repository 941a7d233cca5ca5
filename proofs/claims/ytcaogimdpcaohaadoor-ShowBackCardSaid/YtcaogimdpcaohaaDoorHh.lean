/- Reading a right instruction's text gives it back. (Plain: no run of the program.) -/
import Derived.Test.YtcaogimdpcaohaaDoorHg
set_option linter.unusedVariables false
set_option linter.unusedSimpArgs false
set_option linter.constructorNameAsVariable false

namespace Go.Lev.Seat
open Go Go.Lev
set_option linter.unusedSimpArgs false
set_option linter.unusedVariables false
set_option maxHeartbeats 4000000
/-- Letters that stand in no part's border. -/
def inner (l : List UInt8) : Bool := l.all fun b => b != 44 && b != 40 && b != 41 && b != 32
theorem inner_digits (u : Nat) : inner (Lib.decDigits u) = true := by
  induction u using Nat.strongRecOn with
  | _ u ih =>
    have hd : ∀ d : Nat, d < 10 → inner [UInt8.ofNat (48 + d)] = true := by
      intro d hd
      have : ∀ i : Fin 10, inner [UInt8.ofNat (48 + i.val)] = true := by decide
      exact this ⟨d, hd⟩
    by_cases h : u < 10
    · rw [decDigits_small h]; exact hd u h
    · rw [decDigits_big h]
      have h1 := ih (u / 10) (by omega)
      have h2 := hd (u % 10) (by omega)
      simp only [inner, List.all_append, Bool.and_eq_true] at h1 h2 ⊢
      exact ⟨h1, h2⟩
theorem inner_itoa (n : Int) : inner (Lib.itoa n) = true := by
  unfold Lib.itoa
  split
  · have := inner_digits n.natAbs
    simp only [inner, List.all_cons, Bool.and_eq_true] at this ⊢
    exact ⟨by decide, this⟩
  · exact inner_digits _
theorem itoa_ne (n : Int) : Lib.itoa n ≠ [] := by
  unfold Lib.itoa
  split
  · simp
  · exact decDigits_ne _
theorem inner_reg (n : Int) : inner (regT n) = true := by
  have := inner_itoa n
  simp only [inner, regT, List.all_cons, Bool.and_eq_true] at this ⊢
  exact ⟨by decide, this⟩
theorem inner_set (n : Nat) (h : n < 16) : inner (setN n) = true ∧ setN n ≠ [] := by
  have : ∀ i : Fin 16, inner (setN i.val) = true ∧ setN i.val ≠ [] := by decide
  exact this ⟨n, h⟩
theorem cutA_inner : ∀ (a cur r : List UInt8), inner a = true → cutA cur (a ++ 44 :: 32 :: r) = (cur ++ a) :: cutA [] r ∧ cutA cur (a ++ 40 :: r) = (cur ++ a) :: cutA [] r ∧ cutA cur a = [cur ++ a]
  | [], cur, r, _ => ⟨by simp [cutA_44], by simp [cutA_40], by simp [cutA]⟩
  | b :: a, cur, r, h => by
    simp only [inner, List.all_cons, Bool.and_eq_true, bne_iff_ne, ne_eq] at h
    obtain ⟨⟨⟨⟨h1, h2⟩, h3⟩, h4⟩, h5⟩ := h
    obtain ⟨i1, i2, i3⟩ := cutA_inner a (cur ++ [b]) r h5
    have hp : ∀ x, ¬ hasPre (b :: x) [44, 32] = true := fun x hx => by
      obtain ⟨r, hr⟩ := (pre_44 _).1 hx
      exact h1 (List.cons.inj hr).1
    refine ⟨?_, ?_, ?_⟩
    · rw [List.cons_append, cutA_other _ _ _ (hp _) h2, i1]; simp
    · rw [List.cons_append, cutA_other _ _ _ (hp _) h2, i2]; simp
    · rw [cutA_other _ _ _ (hp _) h2, i3]; simp
theorem trim_inner (a p : List UInt8) (h : inner p = true) (hne : p ≠ []) : trimSuf (a ++ p) [41] = a ++ p := by
  unfold trimSuf
  rw [if_neg]
  rw [hasSuf_iff]
  rintro ⟨r, hr⟩
  have h1 : (a ++ p).getLast? = some 41 := by rw [hr]; simp
  have h2 : (a ++ p).getLast? = p.getLast? := by
    rw [List.getLast?_append]
    cases hp : p.getLast? with
    | none => exact absurd (List.getLast?_eq_none_iff.1 hp) hne
    | some x => rfl
  rw [h2] at h1
  have hm := List.mem_of_getLast? h1
  have := List.all_eq_true.1 h 41 hm
  simp at this
theorem cut_blank (a b : List UInt8) (h : inner a = true) : Lib.cut (a ++ 32 :: b) [32] = (a, b, true) := by
  have hi : Lib.index (a ++ 32 :: b) [32] = a.length := by
    refine Lib.index_first (i := a.length) (by simp) (by simp [Lib.occAt]) fun j hj => ?_
    simp only [Lib.occAt]
    rw [List.drop_append_of_le_length (by omega), List.drop_eq_getElem_cons hj, List.cons_append]
    have hx := List.all_eq_true.1 h a[j] (List.getElem_mem hj)
    simp only [Bool.and_eq_true, bne_iff_ne, ne_eq] at hx
    have hne : ¬ (32 : UInt8) = a[j] := fun e => hx.2 e.symm
    show ((32 == a[j]) && _) = false
    simp [hne]
  unfold Lib.cut
  rw [hi]
  simp
theorem cut_none (a : List UInt8) (h : inner a = true) : Lib.cut a [32] = (a, [], false) := by
  have hi : Lib.index a [32] = -1 := by
    refine Lib.index_none fun j hj => ?_
    simp only [Lib.occAt]
    rcases Nat.lt_or_ge j a.length with hj | hj
    · rw [List.drop_eq_getElem_cons hj]
      have hx := List.all_eq_true.1 h a[j] (List.getElem_mem hj)
      simp only [Bool.and_eq_true, bne_iff_ne, ne_eq] at hx
      have hne : ¬ (32 : UInt8) = a[j] := fun e => hx.2 e.symm
      show ((32 == a[j]) && _) = false
      simp [hne]
    · rw [List.drop_eq_nil_of_le hj]
      rfl
  unfold Lib.cut
  rw [hi]
  simp
theorem regD_regT (n : Int) (h : 0 ≤ n ∧ n ≤ 31) : regD (regT n) = n := by
  have h1 : hasPre (regT n) [120] = true := by simp [hasPre, regT]
  have h2 : num (Lib.itoa n) = some n := num_itoa n (by omega) (by omega)
  simp [regD, reg, h1]
  simp [regT, h2, h]
theorem numD_itoa (n : Int) (h : i64 n) : numD (Lib.itoa n) = n := by
  simp [numD, num_itoa n h.1 h.2]
theorem asSet_set (n : Nat) (h : n < 16) : asSetN (setN n) = n := by
  have : ∀ i : Fin 16, asSetN (setN i.val) = i.val := by decide
  exact this ⟨n, h⟩
theorem op_names : ∀ i : Fin 76, 1 ≤ i.val → ∀ aq rl : Bool, (sortN i.val < 10 → aq = false ∧ rl = false) → opOf (nameT i.val aq rl) = (i.val, aq, rl) ∧ inner (nameT i.val aq rl) = true := by decide +kernel
/-- Which fields each sort has. -/
theorem sort_has : ∀ i : Fin 76, (sortN i.val = 1 → fiN i.val = false ∧ seN i.val = false) ∧ (sortN i.val = 2 → seN i.val = false ∧ (i.val = 3 ∨ i.val = 4) ∧ (i.val = 3 → fiN i.val = false)) ∧ (sortN i.val = 3 → wrN' i.val = false) ∧ (sortN i.val = 4 → seN i.val = false) ∧ (sortN i.val = 5 → wrN' i.val = false) ∧ (sortN i.val = 6 → seN i.val = false) ∧
    (sortN i.val = 8 → (i.val = 50 ∨ i.val = 51) ∧ wrN' i.val = false ∧ fiN i.val = false ∧ seN i.val = false) ∧ (sortN i.val = 9 → wrN' i.val = false ∧ fiN i.val = false ∧ seN i.val = false) ∧ (sortN i.val = 10 → seN i.val = false) ∧ (7 ≤ sortN i.val → shiftN i.val = 0 ∧ formN i.val = 0) ∧ (sortN i.val ≠ 8 → i.val ≠ 50 ∧ i.val ≠ 51) ∧ (sortN i.val = 0 → i.val = 0) ∧ sortN i.val ≤ 12 := by decide +kernel
theorem guess_text (o : Nat) (ho : o < 76) (rd r1 r2 imm p s : Int) (aq rl : Bool) (him : i64 imm) (h : rightC o rd r1 r2 imm aq rl p s = true) : guessV (textN o rd r1 r2 imm aq rl p s) = instV o rd r1 r2 imm aq rl p s := by
  simp only [rightC, regsB, ownB, Bool.and_eq_true, Bool.or_eq_true, Bool.not_eq_true', decide_eq_true_eq, decide_eq_false_iff_not] at h
  obtain ⟨⟨⟨⟨hs0, ⟨⟨⟨⟨⟨a1, a2⟩, a3⟩, a4⟩, a5⟩, a6⟩⟩, ⟨⟨⟨b1, b2⟩, b3⟩, b4⟩⟩, him2⟩, hset⟩ := h
  have ho1 : 1 ≤ o := by
    rcases Nat.eq_zero_or_pos o with rfl | h
    · exact absurd rfl hs0
    · exact h
  obtain ⟨hop, hin⟩ := op_names ⟨o, ho⟩ ho1 aq rl fun hlt => by
    rcases b4 with b4 | b4
    · exact absurd hlt b4
    · exact b4
  obtain ⟨c1, c2, c3, c4, c5, c6, c8, c9, c10, c7, cn8, c0, c12⟩ := sort_has ⟨o, ho⟩
  simp only at hop hin c1 c2 c3 c4 c5 c6 c8 c9 c10 c7 cn8 c0 c12
  have rr1 := regD_regT rd ⟨a1, a2⟩
  have rr2 := regD_regT r1 ⟨a3, a4⟩
  have rr3 := regD_regT r2 ⟨a5, a6⟩
  have rr4 := numD_itoa imm him
  have k1 := inner_reg rd
  have k2 := inner_reg r1
  have k3 := inner_reg r2
  have k4 := inner_itoa imm
  have i4 := itoa_ne imm
  have v1 : regT rd ≠ [] := by simp [regT]
  have v2 : regT r1 ≠ [] := by simp [regT]
  have v3 : regT r2 ≠ [] := by simp [regT]
  -- what a text with parts is read as
  have key : ∀ (rest : List UInt8) (L : List (List UInt8)), cutL (trimSuf rest [41]) = L → guessV (nameT o aq rl ++ 32 :: rest) = guessL o aq rl (L ++ [[], [], []]) := fun rest L hL => by
    unfold guessV argsOf
    rw [cut_blank _ _ hin]
    simp only [hop, hL]
  have key0 : guessV (nameT o aq rl) = guessL o aq rl ([[]] ++ [[], [], []]) := by
    unfold guessV argsOf
    rw [cut_none _ hin]
    simp only [hop]
    rfl
  have hp0 : sortN o ≠ 8 → p = 0 ∧ s = 0 := fun h8 => by
    obtain ⟨x, y⟩ := cn8 h8
    simpa [setsB, x, y] using hset
  have him0 : 7 ≤ sortN o → imm = 0 := fun h7 => by
    obtain ⟨x, y⟩ := c7 h7
    simpa [immB, x, y] using him2
  have hc : sortN o = 1 ∨ sortN o = 2 ∨ sortN o = 3 ∨ sortN o = 4 ∨ sortN o = 5 ∨ sortN o = 6 ∨ sortN o = 7 ∨ sortN o = 8 ∨ sortN o = 9 ∨ sortN o = 10 ∨ sortN o = 11 ∨ sortN o = 12 := by omega
  unfold textN
  rcases hc with e | e | e | e | e | e | e | e | e | e | e | e
  · obtain ⟨f1, f2⟩ := c1 e
    obtain ⟨rfl, rfl⟩ := hp0 (by omega)
    have z1 : r1 = 0 := by simpa [f1] using b2
    have z2 : r2 = 0 := by simpa [f2] using b3
    obtain ⟨n50, n51⟩ := cn8 (by omega)
    have hp : partsN o rd r1 r2 imm 0 0 = [regT rd, Lib.itoa imm] := by simp [partsN, e]
    rw [hp, if_neg (by simp)]
    have hj : Lib.join [regT rd, Lib.itoa imm] [44, 32] = regT rd ++ 44 :: 32 :: Lib.itoa imm := by simp [Lib.join]
    rw [hj, key _ [regT rd, Lib.itoa imm] (by
      have : regT rd ++ 44 :: 32 :: Lib.itoa imm = (regT rd ++ [44, 32]) ++ Lib.itoa imm := by simp
      rw [this, trim_inner _ _ k4 i4, ← this]
      unfold cutL
      rw [(cutA_inner _ _ _ k1).1, (cutA_inner _ _ [] k4).2.2]
      simp)]
    simp [guessL, e, rr1, rr4, z1, z2, n51]
  · obtain ⟨f2, f34, f1⟩ := c2 e
    obtain ⟨rfl, rfl⟩ := hp0 (by omega)
    have z2 : r2 = 0 := by simpa [f2] using b3
    rcases f34 with rfl | rfl
    · have z1 : r1 = 0 := by simpa [f1 rfl] using b2
      have hp : partsN 3 rd r1 r2 imm 0 0 = [regT rd, Lib.itoa imm] := by simp [partsN, e]
      rw [hp, if_neg (by simp)]
      have hj : Lib.join [regT rd, Lib.itoa imm] [44, 32] = regT rd ++ 44 :: 32 :: Lib.itoa imm := by simp [Lib.join]
      rw [hj, key _ [regT rd, Lib.itoa imm] (by
        have : regT rd ++ 44 :: 32 :: Lib.itoa imm = (regT rd ++ [44, 32]) ++ Lib.itoa imm := by simp
        rw [this, trim_inner _ _ k4 i4, ← this]
        unfold cutL
        rw [(cutA_inner _ _ _ k1).1, (cutA_inner _ _ [] k4).2.2]
        simp)]
      simp [guessL, e, rr1, rr4, z1, z2]
    · have hp : partsN 4 rd r1 r2 imm 0 0 = [regT rd, regT r1, Lib.itoa imm] := by simp [partsN, e]
      rw [hp, if_neg (by simp)]
      have hj : Lib.join [regT rd, regT r1, Lib.itoa imm] [44, 32] = regT rd ++ 44 :: 32 :: (regT r1 ++ 44 :: 32 :: Lib.itoa imm) := by simp [Lib.join]
      rw [hj, key _ [regT rd, regT r1, Lib.itoa imm] (by
        have : regT rd ++ 44 :: 32 :: (regT r1 ++ 44 :: 32 :: Lib.itoa imm) = (regT rd ++ 44 :: 32 :: (regT r1 ++ [44, 32])) ++ Lib.itoa imm := by simp
        rw [this, trim_inner _ _ k4 i4, ← this]
        unfold cutL
        rw [(cutA_inner _ _ _ k1).1, (cutA_inner _ _ _ k2).1, (cutA_inner _ _ [] k4).2.2]
        simp)]
      simp [guessL, e, rr1, rr2, rr4, z2]
  · obtain ⟨rfl, rfl⟩ := hp0 (by omega)
    have z0 : rd = 0 := by simpa [c3 e] using b1
    obtain ⟨n50, n51⟩ := cn8 (by omega)
    have hp : partsN o rd r1 r2 imm 0 0 = [regT r1, regT r2, Lib.itoa imm] := by simp [partsN, e]
    rw [hp, if_neg (by simp)]
    have hj : Lib.join [regT r1, regT r2, Lib.itoa imm] [44, 32] = regT r1 ++ 44 :: 32 :: (regT r2 ++ 44 :: 32 :: Lib.itoa imm) := by simp [Lib.join]
    rw [hj, key _ [regT r1, regT r2, Lib.itoa imm] (by
      have : regT r1 ++ 44 :: 32 :: (regT r2 ++ 44 :: 32 :: Lib.itoa imm) = (regT r1 ++ 44 :: 32 :: (regT r2 ++ [44, 32])) ++ Lib.itoa imm := by simp
      rw [this, trim_inner _ _ k4 i4, ← this]
      unfold cutL
      rw [(cutA_inner _ _ _ k2).1, (cutA_inner _ _ _ k3).1, (cutA_inner _ _ [] k4).2.2]
      simp)]
    simp [guessL, e, rr2, rr3, rr4, z0, n51]
  · obtain ⟨rfl, rfl⟩ := hp0 (by omega)
    have z0 : r2 = 0 := by simpa [c4 e] using b3
    obtain ⟨n50, n51⟩ := cn8 (by omega)
    have hp : partsN o rd r1 r2 imm 0 0 = [regT rd, Lib.itoa imm ++ 40 :: regT r1 ++ [41]] := by simp [partsN, e]
    rw [hp, if_neg (by simp)]
    have hj : Lib.join [regT rd, Lib.itoa imm ++ 40 :: regT r1 ++ [41]] [44, 32] = (regT rd ++ 44 :: 32 :: (Lib.itoa imm ++ 40 :: regT r1)) ++ [41] := by simp [Lib.join]
    rw [hj, key _ [regT rd, Lib.itoa imm, regT r1] (by
      rw [trimSuf_app]
      unfold cutL
      rw [(cutA_inner _ _ _ k1).1, (cutA_inner _ _ _ k4).2.1, (cutA_inner _ _ [] k2).2.2]
      simp)]
    simp [guessL, e, rr1, rr2, rr4, z0, n51]
  · obtain ⟨rfl, rfl⟩ := hp0 (by omega)
    have z0 : rd = 0 := by simpa [c5 e] using b1
    obtain ⟨n50, n51⟩ := cn8 (by omega)
    have hp : partsN o rd r1 r2 imm 0 0 = [regT r2, Lib.itoa imm ++ 40 :: regT r1 ++ [41]] := by simp [partsN, e]
    rw [hp, if_neg (by simp)]
    have hj : Lib.join [regT r2, Lib.itoa imm ++ 40 :: regT r1 ++ [41]] [44, 32] = (regT r2 ++ 44 :: 32 :: (Lib.itoa imm ++ 40 :: regT r1)) ++ [41] := by simp [Lib.join]
    rw [hj, key _ [regT r2, Lib.itoa imm, regT r1] (by
      rw [trimSuf_app]
      unfold cutL
      rw [(cutA_inner _ _ _ k3).1, (cutA_inner _ _ _ k4).2.1, (cutA_inner _ _ [] k2).2.2]
      simp)]
    simp [guessL, e, rr3, rr2, rr4, z0, n51]
  · obtain ⟨rfl, rfl⟩ := hp0 (by omega)
    have z0 : r2 = 0 := by simpa [c6 e] using b3
    obtain ⟨n50, n51⟩ := cn8 (by omega)
    have hp : partsN o rd r1 r2 imm 0 0 = [regT rd, regT r1, Lib.itoa imm] := by simp [partsN, e]
    rw [hp, if_neg (by simp)]
    have hj : Lib.join [regT rd, regT r1, Lib.itoa imm] [44, 32] = regT rd ++ 44 :: 32 :: (regT r1 ++ 44 :: 32 :: Lib.itoa imm) := by simp [Lib.join]
    rw [hj, key _ [regT rd, regT r1, Lib.itoa imm] (by
      have : regT rd ++ 44 :: 32 :: (regT r1 ++ 44 :: 32 :: Lib.itoa imm) = (regT rd ++ 44 :: 32 :: (regT r1 ++ [44, 32])) ++ Lib.itoa imm := by simp
      rw [this, trim_inner _ _ k4 i4, ← this]
      unfold cutL
      rw [(cutA_inner _ _ _ k1).1, (cutA_inner _ _ _ k2).1, (cutA_inner _ _ [] k4).2.2]
      simp)]
    simp [guessL, e, rr1, rr2, rr4, z0, n51]
  · obtain ⟨rfl, rfl⟩ := hp0 (by omega)
    obtain rfl := him0 (by omega)
    obtain ⟨n50, n51⟩ := cn8 (by omega)
    have hp : partsN o rd r1 r2 0 0 0 = [regT rd, regT r1, regT r2] := by simp [partsN, e]
    rw [hp, if_neg (by simp)]
    have hj : Lib.join [regT rd, regT r1, regT r2] [44, 32] = regT rd ++ 44 :: 32 :: (regT r1 ++ 44 :: 32 :: regT r2) := by simp [Lib.join]
    rw [hj, key _ [regT rd, regT r1, regT r2] (by
      have : regT rd ++ 44 :: 32 :: (regT r1 ++ 44 :: 32 :: regT r2) = (regT rd ++ 44 :: 32 :: (regT r1 ++ [44, 32])) ++ regT r2 := by simp
      rw [this, trim_inner _ _ k3 v3, ← this]
      unfold cutL
      rw [(cutA_inner _ _ _ k1).1, (cutA_inner _ _ _ k2).1, (cutA_inner _ _ [] k3).2.2]
      simp)]
    simp [guessL, e, rr1, rr2, rr3, n51]
  · obtain ⟨f5, f0, f1, f2⟩ := c8 e
    obtain rfl := him0 (by omega)
    have z0 : rd = 0 := by simpa [f0] using b1
    have z1 : r1 = 0 := by simpa [f1] using b2
    have z2 : r2 = 0 := by simpa [f2] using b3
    obtain ⟨rfl, rfl⟩ : aq = false ∧ rl = false := by
      rcases b4 with b4 | b4
      · omega
      · exact b4
    rcases f5 with rfl | rfl
    · have hs2 : 0 ≤ p ∧ p ≤ 15 ∧ 0 ≤ s ∧ s ≤ 15 := by simp [setsB] at hset; omega
      obtain ⟨w1, w2⟩ := inner_set p.toNat (by omega)
      obtain ⟨w3, w4⟩ := inner_set s.toNat (by omega)
      have hp : partsN 50 rd r1 r2 0 p s = [setN p.toNat, setN s.toNat] := by simp [partsN, e]
      rw [hp, if_neg (by simp)]
      have hj : Lib.join [setN p.toNat, setN s.toNat] [44, 32] = setN p.toNat ++ 44 :: 32 :: setN s.toNat := by simp [Lib.join]
      rw [hj, key _ [setN p.toNat, setN s.toNat] (by
        have : setN p.toNat ++ 44 :: 32 :: setN s.toNat = (setN p.toNat ++ [44, 32]) ++ setN s.toNat := by simp
        rw [this, trim_inner _ _ w3 w4, ← this]
        unfold cutL
        rw [(cutA_inner _ _ _ w1).1, (cutA_inner _ _ [] w3).2.2]
        simp)]
      have y1 := asSet_set p.toNat (by omega)
      have y2 := asSet_set s.toNat (by omega)
      have y3 : ((p.toNat : Nat) : Int) = p := Int.toNat_of_nonneg (by omega)
      have y4 : ((s.toNat : Nat) : Int) = s := Int.toNat_of_nonneg (by omega)
      simp only [guessL, e]
      simp [y1, y2, y3, y4, z0, z1, z2]
    · have hs2 : p = 3 ∧ s = 3 := by simpa [setsB] using hset
      have hp : partsN 51 rd r1 r2 0 p s = [] := by simp [partsN, e]
      rw [hp, if_pos rfl, key0]
      simp [guessL, e, z0, z1, z2, hs2]
  · obtain ⟨f0, f1, f2⟩ := c9 e
    obtain rfl := him0 (by omega)
    obtain ⟨rfl, rfl⟩ := hp0 (by omega)
    obtain ⟨n50, n51⟩ := cn8 (by omega)
    have z0 : rd = 0 := by simpa [f0] using b1
    have z1 : r1 = 0 := by simpa [f1] using b2
    have z2 : r2 = 0 := by simpa [f2] using b3
    have hp : partsN o rd r1 r2 0 0 0 = [] := by simp [partsN, e]
    rw [hp, if_pos rfl, key0]
    simp [guessL, e, z0, z1, z2, n51]
  · obtain rfl := him0 (by omega)
    obtain ⟨rfl, rfl⟩ := hp0 (by omega)
    obtain ⟨n50, n51⟩ := cn8 (by omega)
    have z2 : r2 = 0 := by simpa [c10 e] using b3
    have hp : partsN o rd r1 r2 0 0 0 = [regT rd, 40 :: regT r1 ++ [41]] := by simp [partsN, e]
    rw [hp, if_neg (by simp)]
    have hj : Lib.join [regT rd, 40 :: regT r1 ++ [41]] [44, 32] = (regT rd ++ 44 :: 32 :: ([] ++ 40 :: regT r1)) ++ [41] := by simp [Lib.join]
    rw [hj, key _ [regT rd, [], regT r1] (by
      rw [trimSuf_app]
      unfold cutL
      rw [(cutA_inner _ _ _ k1).1, (cutA_inner [] _ _ rfl).2.1, (cutA_inner _ _ [] k2).2.2]
      simp)]
    simp [guessL, e, rr1, rr2, z2, n51]
  · obtain rfl := him0 (by omega)
    obtain ⟨rfl, rfl⟩ := hp0 (by omega)
    obtain ⟨n50, n51⟩ := cn8 (by omega)
    have hp : partsN o rd r1 r2 0 0 0 = [regT rd, regT r2, 40 :: regT r1 ++ [41]] := by simp [partsN, e]
    rw [hp, if_neg (by simp)]
    have hj : Lib.join [regT rd, regT r2, 40 :: regT r1 ++ [41]] [44, 32] = (regT rd ++ 44 :: 32 :: (regT r2 ++ 44 :: 32 :: ([] ++ 40 :: regT r1))) ++ [41] := by simp [Lib.join]
    rw [hj, key _ [regT rd, regT r2, [], regT r1] (by
      rw [trimSuf_app]
      unfold cutL
      rw [(cutA_inner _ _ _ k1).1, (cutA_inner _ _ _ k3).1, (cutA_inner [] _ _ rfl).2.1, (cutA_inner _ _ [] k2).2.2]
      simp)]
    simp [guessL, e, rr1, rr2, rr3, n51]
  · obtain rfl := him0 (by omega)
    obtain ⟨rfl, rfl⟩ := hp0 (by omega)
    obtain ⟨n50, n51⟩ := cn8 (by omega)
    have hp : partsN o rd r1 r2 0 0 0 = [regT rd, regT r2, 40 :: regT r1 ++ [41]] := by simp [partsN, e]
    rw [hp, if_neg (by simp)]
    have hj : Lib.join [regT rd, regT r2, 40 :: regT r1 ++ [41]] [44, 32] = (regT rd ++ 44 :: 32 :: (regT r2 ++ 44 :: 32 :: ([] ++ 40 :: regT r1))) ++ [41] := by simp [Lib.join]
    rw [hj, key _ [regT rd, regT r2, [], regT r1] (by
      rw [trimSuf_app]
      unfold cutL
      rw [(cutA_inner _ _ _ k1).1, (cutA_inner _ _ _ k3).1, (cutA_inner [] _ _ rfl).2.1, (cutA_inner _ _ [] k2).2.2]
      simp)]
    simp [guessL, e, rr1, rr2, rr3, n51]
end Go.Lev.Seat


namespace Go.Lev.Seat
open Go Go.Lev
set_option linter.unusedSimpArgs false
set_option linter.unusedVariables false
set_option maxHeartbeats 4000000
structure Ins where
  op : Int
  rd : Int
  r1 : Int
  r2 : Int
  imm : Int
  aq : Bool
  rl : Bool
  p : Int
  s : Int
def Ins.v (i : Ins) : Value := instV i.op i.rd i.r1 i.r2 i.imm i.aq i.rl i.p i.s
def Ins.right (i : Ins) : Bool := rightI i.op i.rd i.r1 i.r2 i.imm i.aq i.rl i.p i.s
def Ins.text (i : Ins) : List UInt8 := textI i.op i.rd i.r1 i.r2 i.imm i.aq i.rl i.p i.s
def Ins.zero : Ins := ⟨0, 0, 0, 0, 0, false, false, 0, 0⟩
def Ins.same (i k : Ins) : Bool := i.op == k.op && (i.rd == k.rd && (i.r1 == k.r1 && (i.r2 == k.r2 && (i.imm == k.imm && (i.aq == k.aq && (i.rl == k.rl && (i.p == k.p && i.s == k.s)))))))
theorem Ins.same_iff (i k : Ins) : i.same k = true ↔ i = k := by
  cases i; cases k
  simp [Ins.same]
theorem Ins.eq_V (i k : Ins) (neg : Bool) : eqAV [(0, 0), (1, 0), (2, 0), (3, 0), (4, 0), (5, 1), (6, 1), (7, 0), (8, 0)] neg i.v k.v = some (.bool (if neg then !(i.same k) else i.same k)) := by
  simp [eqAV, eqAll, cmpAt, cellEq, instV, Ins.v, Ins.same]
theorem Ins.sc (i : Ins) : isSc i.v = true := inst_sc _ _ _ _ _ _ _ _ _
theorem Ins.size (i : Ins) : i.v.cells.size = 9 := rfl
theorem Ins.one (i : Ins) : i.v.cells.toList.all Value.oneCell' = true := by simp [Ins.v, instV]
theorem Ins.one9 (i : Ins) : i.v.cells.all (fun a => a.oneCell') 0 9 = true := by simp [Ins.v, instV]
theorem Ins.agg (i : Ins) : Value.agg i.v.cells = i.v := rfl
theorem regD_ok (l : List UInt8) : i64 (regD l) := by
  unfold regD reg
  split
  · split
    · split
      · rename_i v _ h; constructor <;> simp <;> omega
      · exact ⟨by decide, by decide⟩
    · exact ⟨by decide, by decide⟩
  · exact ⟨by decide, by decide⟩
theorem numD_ok (l : List UInt8) : i64 (numD l) := by
  unfold numD
  cases h : num l with
  | none => exact ⟨by decide, by decide⟩
  | some v => exact ((num_iff l v).1 h).2
def guessIL (o : Nat) (aq rl : Bool) (L : List (List UInt8)) : Ins :=
  let p0 : Int := if o = 51 then 3 else 0
  let r := fun (k : Nat) => regD (L[k]?.getD [])
  let m := fun (k : Nat) => numD (L[k]?.getD [])
  if sortN o = 1 then ⟨o, r 0, 0, 0, m 1, aq, rl, p0, p0⟩ else
  if sortN o = 2 then (if o = 4 then ⟨o, r 0, r 1, 0, m 2, aq, rl, p0, p0⟩ else ⟨o, r 0, 0, 0, m 1, aq, rl, p0, p0⟩) else
  if sortN o = 6 then ⟨o, r 0, r 1, 0, m 2, aq, rl, p0, p0⟩ else
  if sortN o = 3 then ⟨o, 0, r 0, r 1, m 2, aq, rl, p0, p0⟩ else
  if sortN o = 4 then ⟨o, r 0, r 2, 0, m 1, aq, rl, p0, p0⟩ else
  if sortN o = 5 then ⟨o, 0, r 2, r 0, m 1, aq, rl, p0, p0⟩ else
  if sortN o = 7 then ⟨o, r 0, r 1, r 2, 0, aq, rl, p0, p0⟩ else
  if sortN o = 8 then (if o = 50 then ⟨o, 0, 0, 0, 0, aq, rl, asSetN (L[0]?.getD []), asSetN (L[1]?.getD [])⟩ else ⟨o, 0, 0, 0, 0, aq, rl, p0, p0⟩) else
  if sortN o = 10 then ⟨o, r 0, r 2, 0, 0, aq, rl, p0, p0⟩ else
  if sortN o = 11 ∨ sortN o = 12 then ⟨o, r 0, r 3, r 1, 0, aq, rl, p0, p0⟩ else ⟨o, 0, 0, 0, 0, aq, rl, p0, p0⟩
def guessI (l : List UInt8) : Ins := guessIL (opOf (Lib.cut l [32]).1).1 (opOf (Lib.cut l [32]).1).2.1 (opOf (Lib.cut l [32]).1).2.2 (argsOf l)
theorem guessIL_v (o : Nat) (aq rl : Bool) (L : List (List UInt8)) : guessL o aq rl L = (guessIL o aq rl L).v := by
  unfold guessL guessIL
  dsimp only
  by_cases h1 : sortN o = 1
  · simp [h1, Ins.v]
  by_cases h2 : sortN o = 2
  · by_cases q : o = 4
    · subst q; rfl
    · simp [h1, h2, q, Ins.v]
  by_cases h6 : sortN o = 6
  · simp [h1, h2, h6, Ins.v]
  by_cases h3 : sortN o = 3
  · simp [h1, h2, h6, h3, Ins.v]
  by_cases h4 : sortN o = 4
  · simp [h1, h2, h6, h3, h4, Ins.v]
  by_cases h5 : sortN o = 5
  · simp [h1, h2, h6, h3, h4, h5, Ins.v]
  by_cases h7 : sortN o = 7
  · simp [h1, h2, h6, h3, h4, h5, h7, Ins.v]
  by_cases h8 : sortN o = 8
  · by_cases q : o = 50
    · subst q; rfl
    · simp [h1, h2, h6, h3, h4, h5, h7, h8, q, Ins.v]
  by_cases h10 : sortN o = 10
  · simp [h1, h2, h6, h3, h4, h5, h7, h8, h10, Ins.v]
  by_cases q : sortN o = 11 ∨ sortN o = 12
  · simp [h1, h2, h6, h3, h4, h5, h7, h8, h10, q, Ins.v]
  · simp [h1, h2, h6, h3, h4, h5, h7, h8, h10, q, Ins.v]
theorem guessI_v (l : List UInt8) : guessV l = (guessI l).v := guessIL_v _ _ _ _
theorem guessIL_imm (o : Nat) (ho : i64 (o : Nat)) (aq rl : Bool) (L : List (List UInt8)) : i64 (guessIL o aq rl L).imm ∧ i64 (guessIL o aq rl L).op := by
  have h0 : i64 0 := ⟨by decide, by decide⟩
  unfold guessIL
  dsimp only
  by_cases h1 : sortN o = 1
  · rw [if_pos h1]
    first | exact ⟨numD_ok _, ho⟩ | exact ⟨h0, ho⟩
  by_cases h2 : sortN o = 2
  · rw [if_neg h1, if_pos h2]
    split
    · exact ⟨numD_ok _, ho⟩
    · exact ⟨numD_ok _, ho⟩
  by_cases h6 : sortN o = 6
  · rw [if_neg h1, if_neg h2, if_pos h6]
    first | exact ⟨numD_ok _, ho⟩ | exact ⟨h0, ho⟩
  by_cases h3 : sortN o = 3
  · rw [if_neg h1, if_neg h2, if_neg h6, if_pos h3]
    first | exact ⟨numD_ok _, ho⟩ | exact ⟨h0, ho⟩
  by_cases h4 : sortN o = 4
  · rw [if_neg h1, if_neg h2, if_neg h6, if_neg h3, if_pos h4]
    first | exact ⟨numD_ok _, ho⟩ | exact ⟨h0, ho⟩
  by_cases h5 : sortN o = 5
  · rw [if_neg h1, if_neg h2, if_neg h6, if_neg h3, if_neg h4, if_pos h5]
    first | exact ⟨numD_ok _, ho⟩ | exact ⟨h0, ho⟩
  by_cases h7 : sortN o = 7
  · rw [if_neg h1, if_neg h2, if_neg h6, if_neg h3, if_neg h4, if_neg h5, if_pos h7]
    first | exact ⟨numD_ok _, ho⟩ | exact ⟨h0, ho⟩
  by_cases h8 : sortN o = 8
  · rw [if_neg h1, if_neg h2, if_neg h6, if_neg h3, if_neg h4, if_neg h5, if_neg h7, if_pos h8]
    split
    · exact ⟨h0, ho⟩
    · exact ⟨h0, ho⟩
  by_cases h10 : sortN o = 10
  · rw [if_neg h1, if_neg h2, if_neg h6, if_neg h3, if_neg h4, if_neg h5, if_neg h7, if_neg h8, if_pos h10]
    first | exact ⟨numD_ok _, ho⟩ | exact ⟨h0, ho⟩
  rw [if_neg h1, if_neg h2, if_neg h6, if_neg h3, if_neg h4, if_neg h5, if_neg h7, if_neg h8, if_neg h10]
  split
  · exact ⟨h0, ho⟩
  · exact ⟨h0, ho⟩
theorem guessI_imm (l : List UInt8) : i64 (guessI l).imm ∧ i64 (guessI l).op := guessIL_imm _ (by have ho := opOf_lt (Lib.cut l [32]).1; exact ⟨by omega, by omega⟩) _ _ _
theorem Ins.v_inj {i k : Ins} (h : i.v = k.v) : i = k := by
  cases i; cases k
  simp only [Ins.v, instV, Value.agg.injEq, Array.mk.injEq, List.cons.injEq, Value.int.injEq, Value.bool.injEq] at h
  simp_all
theorem guess_back (i : Ins) (hm : i64 i.imm) (h : i.right = true) : guessI i.text = i := by
  obtain ⟨h1, h2, _⟩ := right_says h
  have h3 : rightC i.op.toNat i.rd i.r1 i.r2 i.imm i.aq i.rl i.p i.s = true := by
    simp only [Ins.right, rightI, Bool.and_eq_true] at h
    exact h.2
  have := guess_text i.op.toNat (by omega) i.rd i.r1 i.r2 i.imm i.p i.s i.aq i.rl hm h3
  rw [Int.toNat_of_nonneg (by omega)] at this
  apply Ins.v_inj
  rw [← guessI_v]
  exact this
def readV (l : List UInt8) : Value := if (guessI l).right = true ∧ (guessI l).text = l then .tuple #[(guessI l).v, .int .i64 0] else .tuple #[Ins.zero.v, .int .i64 5]
theorem readV_sc (l : List UInt8) : isScT (readV l) = true := by
  unfold readV
  split <;> simp [Ins.sc]
theorem read_any (l : List UInt8) (hl : l.length ≤ 900) : Run 11 n_show_Read [strV l] (readV l) := by
  refine Run.text (F := L_show_Read) (fun _ _ => rfl) rfl rfl (by simp [L_show_Read]) (readV_sc l) fun d hd => ?_
  have hg := (guess_any l hl).any hd
  rw [guessI_v] at hg
  obtain ⟨hm, hop⟩ := guessI_imm l
  have hR := (right_any (guessI l).op (guessI l).rd (guessI l).r1 (guessI l).r2 (guessI l).imm (guessI l).aq (guessI l).rl (guessI l).p (guessI l).s hm).any (show 9 ≤ d by omega)
  have hT := fun h => (text_any (guessI l).op (guessI l).rd (guessI l).r1 (guessI l).r2 (guessI l).imm (guessI l).aq (guessI l).rl (guessI l).p (guessI l).s hm h).any (show 9 ≤ d by omega)
  change ∀ fl H, T K d n_encode_Right fl [(guessI l).v] H = some (.bool (guessI l).right, H) at hR
  change (guessI l).right = true → ∀ fl H, T K d n_show_text fl [(guessI l).v] H = some (strV (guessI l).text, H) at hT
  have z0 : Ins.zero.v.cells.toList = [.int .i64 0, .int .i64 0, .int .i64 0, .int .i64 0, .int .i64 0, .bool false, .bool false, .int .i64 0, .int .i64 0] := rfl
  have z1 : Ins.zero.v = .agg #[.int .i64 0, .int .i64 0, .int .i64 0, .int .i64 0, .int .i64 0, .bool false, .bool false, .int .i64 0, .int .i64 0] := rfl
  unfold readV
  generalize guessI l = i at hg hR hT ⊢
  have hsz := i.size
  have hone := i.one9
  have hag := i.agg
  have htk : List.take 9 i.v.cells.toList = i.v.cells.toList := rfl
  generalize i.v = V at hg hR hT hsz hone hag htk ⊢
  cases hr : i.right with
  | false =>
    rw [hr] at hR
    simp [L_show_Read, retQ_pair, hg, hsz, hone, hag, htk, hR, z1, fillV, fillL]
  | true =>
    rw [hr] at hR
    have hT := hT hr
    by_cases ht : i.text = l
    · simp [L_show_Read, retQ_pair, hg, hsz, hone, hag, htk, hR, hT, ht]
    · simp [L_show_Read, retQ_pair, hg, hsz, hone, hag, htk, hR, hT, ht, z1, fillV, fillL]
end Go.Lev.Seat


namespace Go.Lev.Seat
open Go Go.Lev
set_option linter.unusedSimpArgs false
set_option linter.unusedVariables false
set_option maxHeartbeats 4000000
def Ins.textV (i : Ins) : List UInt8 := if i.right = true then i.text else []
def Ins.errV (i : Ins) : Int := if i.right = true then 0 else 1
theorem Ins.text_le (i : Ins) (hm : i64 i.imm) (h : i.right = true) : i.text.length ≤ 300 := by
  obtain ⟨h1, h2, h3, h4, h5, h6⟩ := right_says h
  obtain ⟨f1, f2⟩ := parts_few i.op.toNat i.rd i.r1 i.r2 i.imm i.p i.s h3 h4 h5 hm h6
  have hn := nameT_le i.op.toNat (by omega) i.aq i.rl
  unfold Ins.text textI textN
  split
  · omega
  · simp; omega
theorem back_run (i k : Ins) (l : List UInt8) (hi : i64 i.imm) (hk : i64 k.imm) : Run 21 n_law09_ShowBack [i.v, k.v, strV l] (.bool true) := by
  refine Run.text (F := L_law09_ShowBack) (fun _ _ => rfl) rfl (by simp [Ins.sc]) (by simp [L_law09_ShowBack]) rfl fun d hd => ?_
  have hA := alive_any.any hd
  have hTx : ∀ x : Ins, i64 x.imm → ∀ fl H, T K d n_show_Text fl [x.v] H = some (.tuple #[strV x.textV, .int .i64 x.errV], H) := fun x hx fl H => by
    have := (showText_run x.op x.rd x.r1 x.r2 x.imm x.aq x.rl x.p x.s hx).any (show 10 ≤ d by omega) fl H
    rw [show n_show_Text = n_show_Text from rfl]
    refine this.trans ?_
    unfold showT Ins.textV Ins.errV
    change some (if x.right = true then _ else _, H) = _
    split <;> rfl
  have hRd : ∀ t : List UInt8, t.length ≤ 900 → ∀ fl H, T K d n_show_Read fl [strV t] H = some (readV t, H) := fun t ht => (read_any t ht).any (show 11 ≤ d by omega)
  have hback : ∀ x : Ins, i64 x.imm → x.right = true → readV x.text = .tuple #[x.v, .int .i64 0] := fun x hx h => by
    unfold readV
    rw [guess_back x hx h, if_pos ⟨h, rfl⟩]
  have hTi := hTx i hi
  have hTk := hTx k hk
  have ai := i.agg
  have ak := k.agg
  have si := i.size
  have sk := k.size
  have oi := i.one9
  have ti : List.take 9 i.v.cells.toList = i.v.cells.toList := rfl
  have tk : List.take 9 k.v.cells.toList = k.v.cells.toList := rfl
  have eii := Ins.eq_V i i true
  have eik := Ins.eq_V i k false
  have hii : i.same i = true := (Ins.same_iff i i).2 rfl
  show wp P0 (T K d) 0 K _ _ _
  refine lwp_midH [{ cells := i.v.cells.toList }, { cells := k.v.cells.toList }] (fun env => evO env (.tmp 2) = strV l ∧ evO env (.tmp 3) = .pointer (some ⟨0, 0, some 0⟩) ∧ evO env (.tmp 4) = .pointer (some ⟨1, 0, some 0⟩)) (by simp) ?_
  rintro env ⟨a2, a3, a4⟩
  refine lwp_midH [{ cells := i.v.cells.toList }, { cells := k.v.cells.toList }] (fun env => evO env (.tmp 2) = strV l ∧ evO env (.tmp 3) = .pointer (some ⟨0, 0, some 0⟩) ∧ evO env (.tmp 4) = .pointer (some ⟨1, 0, some 0⟩)) (by simp [a2, a3, a4, hA]) ?_
  clear a2 a3 a4
  rintro env ⟨a2, a3, a4⟩
  refine lwp_midH [{ cells := i.v.cells.toList }, { cells := k.v.cells.toList }] (fun env => evO env (.tmp 2) = strV l ∧ evO env (.tmp 3) = .pointer (some ⟨0, 0, some 0⟩) ∧ evO env (.tmp 4) = .pointer (some ⟨1, 0, some 0⟩) ∧ l.length ≤ 200) ?_ ?_
  · by_cases hl : l.length ≤ 200
    · have e : ¬ (200 : Int) < (l.length : Int) := by omega
      simp [a2, a3, a4, e, hl]
    · have e : (200 : Int) < (l.length : Int) := by omega
      simp [a2, a3, a4, e, hA, L_law09_ShowBack]
  clear a2 a3 a4
  rintro env ⟨a2, a3, a4, hl⟩
  refine lwp_midH [{ cells := i.v.cells.toList }, { cells := k.v.cells.toList }] (fun env => evO env (.tmp 2) = strV l ∧ evO env (.tmp 3) = .pointer (some ⟨0, 0, some 0⟩) ∧ evO env (.tmp 4) = .pointer (some ⟨1, 0, some 0⟩) ∧ evO env (.tmp 7) = strV i.textV ∧ evO env (.tmp 8) = .int .i64 i.errV) (by simp [a2, a3, a4, si, ti, ai, hTi]) ?_
  clear a2 a3 a4
  rintro env ⟨a2, a3, a4, a7, a8⟩
  refine lwp_midE (fun env H => ∃ X, H = { cells := i.v.cells.toList } :: { cells := k.v.cells.toList } :: X ∧ evO env (.tmp 2) = strV l ∧ evO env (.tmp 3) = .pointer (some ⟨0, 0, some 0⟩) ∧ evO env (.tmp 4) = .pointer (some ⟨1, 0, some 0⟩) ∧ evO env (.tmp 7) = strV i.textV ∧ evO env (.tmp 8) = .int .i64 i.errV) ?_ ?_
  · cases hr : i.right with
    | false =>
      have e : i.errV = 1 := by simp [Ins.errV, hr]
      rw [e] at a8
      simp [a2, a3, a4, a7, a8, e]
    | true =>
      have e : i.errV = 0 := by simp [Ins.errV, hr]
      have e2 : i.textV = i.text := by simp [Ins.textV, hr]
      have hq := hRd i.text (by have := i.text_le hi hr; omega)
      rw [hback i hi hr] at hq
      rw [e] at a8
      rw [e2] at a7
      simp [a2, a3, a4, a7, a8, e, e2, hq, si, oi, ti, ai, eii, hii]
  clear a2 a3 a4 a7 a8
  rintro env _ ⟨X, rfl, a2, a3, a4, a7, a8⟩
  refine lwp_midE (fun env H => H = { cells := i.v.cells.toList } :: { cells := k.v.cells.toList } :: X ∧ evO env (.tmp 2) = strV l ∧ evO env (.tmp 3) = .pointer (some ⟨0, 0, some 0⟩) ∧ evO env (.tmp 4) = .pointer (some ⟨1, 0, some 0⟩) ∧ evO env (.tmp 7) = strV i.textV ∧ evO env (.tmp 8) = .int .i64 i.errV ∧ evO env (.tmp 11) = strV k.textV ∧ evO env (.tmp 12) = .int .i64 k.errV) (by simp [a2, a3, a4, a7, a8, sk, tk, ak, hTk]) ?_
  clear a2 a3 a4 a7 a8
  rintro env _ ⟨rfl, a2, a3, a4, a7, a8, a11, a12⟩
  refine lwp_midE (fun env H => H = { cells := i.v.cells.toList } :: { cells := k.v.cells.toList } :: X ∧ evO env (.tmp 2) = strV l) ?_ ?_
  · by_cases hri : i.right = true
    · have e : i.errV = 0 := by simp [Ins.errV, hri]
      have e2 : i.textV = i.text := by simp [Ins.textV, hri]
      rw [e] at a8
      rw [e2] at a7
      by_cases hrk : k.right = true
      · have e3 : k.errV = 0 := by simp [Ins.errV, hrk]
        have e4 : k.textV = k.text := by simp [Ins.textV, hrk]
        rw [e3] at a12
        rw [e4] at a11
        have hiff : decide (i.text = k.text) = i.same k := by
          rw [Bool.eq_iff_iff, decide_eq_true_eq, Ins.same_iff]
          constructor
          · intro h
            rw [← guess_back i hi hri, ← guess_back k hk hrk, h]
          · rintro rfl; rfl
        simp [a2, a3, a4, a7, a8, a11, a12, si, sk, ti, tk, ai, ak, eik, hiff]
      · have e3 : k.errV = 1 := by simp [Ins.errV, hrk]
        rw [e3] at a12
        simp [a2, a3, a4, a7, a8, a11, a12]
    · have e : i.errV = 1 := by simp [Ins.errV, hri]
      rw [e] at a8
      simp [a2, a3, a4, a7, a8, a11, a12]
  clear a2 a3 a4 a7 a8 a11 a12
  rintro env _ ⟨rfl, a2⟩
  have hq := hRd l (by omega)
  unfold readV at hq
  generalize hx : guessI l = x at hq
  have hxm : i64 x.imm := by rw [← hx]; exact (guessI_imm l).1
  have hTx := hTx x hxm
  have ax := x.agg
  have sx := x.size
  have ox := x.one9
  have tx : List.take 9 x.v.cells.toList = x.v.cells.toList := rfl
  by_cases hok : x.right = true ∧ x.text = l
  · rw [if_pos hok] at hq
    have e3 : x.errV = 0 := by simp [Ins.errV, hok.1]
    have e4 : x.textV = l := by simp [Ins.textV, hok.1, hok.2]
    rw [e3, e4] at hTx
    simp [L_law09_ShowBack, wrN_app0, a2, hq, sx, ox, tx, ax, hTx, hA]
  · rw [if_neg hok] at hq
    have az := Ins.zero.agg
    have sz := Ins.zero.size
    have oz := Ins.zero.one9
    generalize Ins.zero.v = Z at hq az sz oz
    simp [L_law09_ShowBack, wrN_app0, a2, hq, sz, oz, az, hA]
end Go.Lev.Seat

/- Decimal numerals: what the program's reader and the document's reader answer are one. No program in sight. -/
import Derived.Lib.ParseIntB
import Derived.Lib.ItoaNum
import Derived.Lib.ItoaMem
import Derived.Lib.Atoi
import Derived.Lib.ItoaLen
set_option linter.unusedVariables false
set_option linter.unusedSimpArgs false
namespace Go.Lev
open Go.Lib

def num (l : List UInt8) : Option Int := match parseIntB 64 l with
  | .ok v => if itoa v = l then some v else none
  | _ => none

/-- The document's, off the sign. -/
def refNumD (neg : Bool) (d : List UInt8) : Option Int :=
  if d = [] ∨ 19 < d.length ∨ (d.head? = some 48 ∧ (1 < d.length ∨ neg = true)) then none
  else match decFrom 0 d with
    | none => none
    | some n => if 9223372036854775808 < n ∨ (n = 9223372036854775808 ∧ neg = false) then none else some (if neg then -(n : Int) else n)
def refNum (l : List UInt8) : Option Int := match l with
  | 45 :: d => refNumD true d
  | l => refNumD false l

theorem decFrom_app : ∀ (l m : List UInt8) (acc : Nat), decFrom acc (l ++ m) = (decFrom acc l).bind fun n => decFrom n m
  | [], m, acc => rfl
  | a :: l, m, acc => by
    simp only [List.cons_append, decFrom]
    cases digitVal a with
    | none => rfl
    | some d => exact decFrom_app l m _

theorem digit_of (u : Nat) (h : u < 10) : digitVal (UInt8.ofNat (48 + u)) = some u := by
  have : (UInt8.ofNat (48 + u)).toNat = 48 + u := by simp [UInt8.toNat_ofNat']; omega
  simp [digitVal, this]; omega

theorem of_digit {b : UInt8} {d : Nat} (h : digitVal b = some d) : b = UInt8.ofNat (48 + d) ∧ d < 10 := by
  obtain ⟨h1, h2, h3⟩ := digitVal_eq h
  refine ⟨?_, by omega⟩
  apply UInt8.toNat_inj.1
  simp [UInt8.toNat_ofNat']
  omega

theorem decDigits_small {u : Nat} (h : u < 10) : decDigits u = [UInt8.ofNat (48 + u)] := by rw [decDigits, dif_pos h]
theorem decDigits_big {u : Nat} (h : ¬ u < 10) : decDigits u = decDigits (u / 10) ++ [UInt8.ofNat (48 + u % 10)] := by rw [decDigits, dif_neg h]

theorem decFrom_ge : ∀ (l : List UInt8) (acc u : Nat), decFrom acc l = some u → acc ≤ u
  | [], acc, u, h => by simp [decFrom] at h; omega
  | a :: l, acc, u, h => by
    simp only [decFrom] at h
    cases ha : digitVal a with
    | none => simp [ha] at h
    | some d => simp only [ha] at h; have := decFrom_ge l _ _ h; omega

theorem decDigits_from (u : Nat) : decFrom 0 (decDigits u) = some u := by
  induction u using Nat.strongRecOn with
  | _ u ih =>
    by_cases h : u < 10
    · rw [decDigits_small h]; simp only [decFrom, digit_of u h]; congr 1; omega
    · rw [decDigits_big h, decFrom_app, ih (u / 10) (by omega)]
      simp only [Option.bind_some, decFrom, digit_of (u % 10) (by omega)]
      congr 1
      omega
theorem decDigits_ne (u : Nat) : decDigits u ≠ [] := by
  rw [decDigits]; split <;> simp
theorem decDigits_head (u : Nat) : ∀ b r, decDigits u = b :: r → b = 48 → u = 0 ∧ r = [] := by
  induction u using Nat.strongRecOn with
  | _ u ih =>
    intro b r h hb
    by_cases hu : u < 10
    · rw [decDigits_small hu] at h
      simp only [List.cons.injEq] at h
      obtain ⟨h1, h2⟩ := h
      refine ⟨?_, h2.symm⟩
      subst hb
      have := congrArg UInt8.toNat h1
      simp [UInt8.toNat_ofNat'] at this
      omega
    · rw [decDigits_big hu] at h
      cases hd : decDigits (u / 10) with
      | nil => exact absurd hd (decDigits_ne _)
      | cons c t =>
        rw [hd] at h
        simp only [List.cons_append, List.cons.injEq] at h
        obtain ⟨h1, _⟩ := ih (u / 10) (by omega) c t hd (h.1.trans hb)
        omega

theorem decDigits_of : ∀ (n : Nat) (l : List UInt8) (u : Nat), l.length = n → decFrom 0 l = some u → l ≠ [] → (∀ r, l = 48 :: r → r = []) → decDigits u = l := by
  intro n
  induction n with
  | zero => intro l u hl _ hne; exact absurd (List.length_eq_zero_iff.1 hl) hne
  | succ n ih =>
    intro l u hl hd hne hz
    obtain ⟨l', c, rfl⟩ : ∃ l' c, l = l' ++ [c] := ⟨l.dropLast, l.getLast hne, (List.dropLast_concat_getLast hne).symm⟩
    rw [decFrom_app] at hd
    cases hl' : decFrom 0 l' with
    | none => simp [hl'] at hd
    | some u' =>
      simp only [hl', Option.bind_some, decFrom] at hd
      cases hc : digitVal c with
      | none => simp [hc] at hd
      | some d =>
        simp only [hc, Option.some.injEq] at hd
        obtain ⟨rfl, hd10⟩ := of_digit hc
        by_cases he : l' = []
        · subst he
          simp [decFrom] at hl'
          subst hl'
          rw [decDigits_small (by omega)]
          simp at hd
          subst hd
          rfl
        · have hpos : 1 ≤ u' := by
            cases l' with
            | nil => exact absurd rfl he
            | cons a t =>
              simp only [decFrom] at hl'
              cases ha : digitVal a with
              | none => simp [ha] at hl'
              | some e =>
                simp only [ha] at hl'
                have h1 := decFrom_ge _ _ _ hl'
                obtain ⟨ha1, _⟩ := of_digit ha
                rcases Nat.eq_zero_or_pos e with h0 | h0
                · subst h0
                  have := hz (t ++ [UInt8.ofNat (48 + d)]) (by rw [ha1]; rfl)
                  simp at this
                · omega
          have h2 := ih l' u' (by simp at hl; omega) hl' he (fun r hr => by
            have := hz (r ++ [UInt8.ofNat (48 + d)]) (by rw [hr]; rfl)
            simp at this)
          rw [decDigits_big (by omega)]
          have e1 : u / 10 = u' := by omega
          have e2 : u % 10 = d := by omega
          rw [e1, e2, h2]

theorem parseUintM_of : ∀ (l : List UInt8) (M acc u : Nat), decFrom acc l = some u → u ≤ M → M ≤ 18446744073709551615 → parseUintM M acc l = .ok u
  | [], M, acc, u, h, _, _ => by simp [decFrom] at h; simp [parseUintM, h]
  | a :: l, M, acc, u, h, h1, h2 => by
    simp only [decFrom] at h
    cases ha : digitVal a with
    | none => simp [ha] at h
    | some d =>
      simp only [ha] at h
      obtain ⟨k1, k2, k3⟩ := digitVal_eq ha
      have h3 := decFrom_ge _ _ _ h
      rw [parseUintM, if_pos ⟨k1, k2⟩, if_neg (by omega), if_neg (by omega)]
      rw [← k3]
      exact parseUintM_of l M _ u h h1 h2

theorem parse_itoa (v : Int) (h0 : -9223372036854775808 ≤ v) (h1 : v ≤ 9223372036854775807) : parseIntB 64 (itoa v) = .ok v := by
  by_cases hv : v < 0
  · obtain ⟨u, rfl⟩ : ∃ u : Nat, v = -(u : Int) := ⟨v.natAbs, by omega⟩
    have hp : parseUintB 64 (decDigits u) = .ok u := by
      unfold parseUintB
      rw [if_neg (decDigits_ne u)]
      exact parseUintM_of _ _ _ _ (decDigits_from u) (by omega) (by omega)
    rw [itoa_neg u (by omega)]
    simp [parseIntB, hp]
    omega
  · obtain ⟨u, rfl⟩ : ∃ u : Nat, v = (u : Int) := ⟨v.natAbs, by omega⟩
    have hp : parseUintB 64 (decDigits u) = .ok u := by
      unfold parseUintB
      rw [if_neg (decDigits_ne u)]
      exact parseUintM_of _ _ _ _ (decDigits_from u) (by omega) (by omega)
    rw [itoa_nonneg u]
    cases hd : decDigits u with
    | nil => exact absurd hd (decDigits_ne u)
    | cons c r =>
      have hc : ∃ d, digitVal c = some d := digit_of_decFrom _ _ _ (decDigits_from u) 0 c (by rw [hd]; rfl)
      obtain ⟨d, hc⟩ := hc
      obtain ⟨k1, k2, _⟩ := digitVal_eq hc
      have e1 : ¬ c.toNat = 43 := by omega
      have e2 : ¬ c.toNat = 45 := by omega
      rw [hd] at hp
      simp [parseIntB, hp, e1, e2]
      omega

theorem parse_bounds {l : List UInt8} {v : Int} (h : parseIntB 64 l = .ok v) : -9223372036854775808 ≤ v ∧ v ≤ 9223372036854775807 := by
  cases l with
  | nil => simp [parseIntB] at h
  | cons c r =>
    simp only [parseIntB] at h
    split at h
    · simp at h
    · simp at h
    · split at h
      · simp at h
      · split at h
        · simp at h
        · rename_i h1 h2
          simp only [NumEnd.ok.injEq] at h
          subst h
          by_cases hc : c.toNat = 45 <;> simp [hc] at h1 h2 ⊢ <;> omega

theorem num_iff (l : List UInt8) (v : Int) : num l = some v ↔ (itoa v = l ∧ -9223372036854775808 ≤ v ∧ v ≤ 9223372036854775807) := by
  constructor
  · intro h
    unfold num at h
    split at h
    · rename_i x hx
      split at h
      · rename_i he
        obtain rfl := Option.some.inj h
        exact ⟨he, parse_bounds hx⟩
      · simp at h
    · simp at h
  · rintro ⟨rfl, h0, h1⟩
    unfold num
    rw [parse_itoa v h0 h1]
    simp

theorem num_itoa (v : Int) (h0 : -9223372036854775808 ≤ v) (h1 : v ≤ 9223372036854775807) : num (itoa v) = some v := (num_iff _ _).2 ⟨rfl, h0, h1⟩

theorem decDigits_len (u : Nat) (h : u < 10 ^ 19) : (decDigits u).length ≤ 19 := by
  have : ∀ (n u : Nat), u < 10 ^ n → 1 ≤ n → (decDigits u).length ≤ n := by
    intro n
    induction n with
    | zero => intro u h h1; omega
    | succ n ih =>
      intro u h _
      by_cases hu : u < 10
      · rw [decDigits_small hu]; simp
      · rw [decDigits_big hu]
        have hn : 1 ≤ n := by
          rcases Nat.eq_zero_or_pos n with h0 | h0
          · subst h0; omega
          · exact h0
        have := ih (u / 10) (by rw [Nat.pow_succ] at h; omega) hn
        simp
        omega
  exact this 19 u h (by omega)

theorem refNumD_iff (neg : Bool) (d : List UInt8) (v : Int) : refNumD neg d = some v ↔ ∃ u : Nat, decDigits u = d ∧ (neg = true → 1 ≤ u ∧ u ≤ 9223372036854775808 ∧ v = -(u : Int)) ∧ (neg = false → u ≤ 9223372036854775807 ∧ v = u) := by
  constructor
  · intro h
    unfold refNumD at h
    split at h
    · simp at h
    · rename_i hc
      split at h
      · simp at h
      · rename_i n hn
        split at h
        · simp at h
        · rename_i h2
          have hd : decDigits n = d := decDigits_of _ d n rfl hn (fun e => hc (.inl e)) (fun r e => by
            subst e
            rcases Nat.eq_zero_or_pos r.length with h0 | h0
            · exact List.length_eq_zero_iff.1 h0
            · exact absurd (.inr (.inr ⟨rfl, .inl (by simp; omega)⟩)) hc)
          refine ⟨n, hd, fun hneg => ?_, fun hneg => ?_⟩
          · subst hneg
            simp at h h2
            refine ⟨?_, h2, h.symm⟩
            rcases Nat.eq_zero_or_pos n with h0 | h0
            · subst h0
              exact absurd (.inr (.inr ⟨by rw [← hd, decDigits_small (by omega)]; rfl, .inr rfl⟩)) hc
            · exact h0
          · subst hneg
            simp at h h2
            exact ⟨by omega, h.symm⟩
  · rintro ⟨u, rfl, h1, h2⟩
    unfold refNumD
    have hu : u ≤ 9223372036854775808 := by cases neg with
      | true => exact (h1 rfl).2.1
      | false => have := (h2 rfl).1; omega
    have hlen := decDigits_len u (by omega)
    rw [if_neg, decDigits_from]
    · cases neg with
      | true => have := h1 rfl; simp; omega
      | false => have := h2 rfl; simp; omega
    · rintro (h | h | ⟨h, h3⟩)
      · exact decDigits_ne u h
      · omega
      · cases hd : decDigits u with
        | nil => exact decDigits_ne u hd
        | cons b r =>
          rw [hd] at h h3
          simp only [List.head?_cons, Option.some.injEq] at h
          obtain ⟨h4, h5⟩ := decDigits_head u b r hd h
          subst h5
          rcases h3 with h3 | h3
          · simp at h3
          · have := (h1 h3).1; omega

theorem refNum_num (l : List UInt8) : refNum l = num l := by
  apply Option.ext
  intro v
  rw [num_iff]
  have pos : ∀ (l : List UInt8), (∀ d, l ≠ 45 :: d) → ((∃ u : Nat, decDigits u = l ∧ u ≤ 9223372036854775807 ∧ v = u) ↔ (itoa v = l ∧ -9223372036854775808 ≤ v ∧ v ≤ 9223372036854775807)) := by
    intro l hl
    constructor
    · rintro ⟨u, rfl, h1, rfl⟩
      exact ⟨itoa_nonneg u, by omega, by omega⟩
    · rintro ⟨h1, h2, h3⟩
      by_cases hv : v < 0
      · have : itoa v = 45 :: decDigits v.natAbs := by unfold itoa; rw [if_pos hv]
        rw [this] at h1
        exact absurd h1.symm (hl _)
      · obtain ⟨u, rfl⟩ : ∃ u : Nat, v = (u : Int) := ⟨v.natAbs, by omega⟩
        exact ⟨u, by rw [← h1, itoa_nonneg], by omega, rfl⟩
  have plain : ∀ (l : List UInt8), (∀ d, l ≠ 45 :: d) → (refNumD false l = some v ↔ (itoa v = l ∧ -9223372036854775808 ≤ v ∧ v ≤ 9223372036854775807)) := by
    intro l hl
    rw [refNumD_iff, ← pos l hl]
    simp
  unfold refNum
  split
  · rename_i d
    rw [refNumD_iff]
    constructor
    · rintro ⟨u, rfl, h1, _⟩
      obtain ⟨h2, h3, rfl⟩ := h1 rfl
      exact ⟨itoa_neg u h2, by omega, by omega⟩
    · rintro ⟨h1, h2, h3⟩
      by_cases hv : v < 0
      · obtain ⟨u, rfl⟩ : ∃ u : Nat, v = -(u : Int) := ⟨v.natAbs, by omega⟩
        rw [itoa_neg u (by omega)] at h1
        simp at h1
        exact ⟨u, h1, fun _ => ⟨by omega, by omega, rfl⟩, fun h => by simp at h⟩
      · obtain ⟨u, rfl⟩ : ∃ u : Nat, v = (u : Int) := ⟨v.natAbs, by omega⟩
        rw [itoa_nonneg] at h1
        have hc : ∃ e, digitVal 45 = some e := digit_of_decFrom _ _ _ (decDigits_from u) 0 45 (by rw [h1]; rfl)
        simp [digitVal] at hc
  · rename_i hl
    exact plain l (fun d e => hl d e)

end Go.Lev

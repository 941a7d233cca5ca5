/- A part of the proof: see the last text of this claim. -/
import Derived.Test.YtcaogimdpcaohaaDoorN1
namespace Go.Proofs.YtcaogimdpcaohaaDoor.V
open Go Go.Lev
set_option linter.unusedSimpArgs false
set_option linter.unusedVariables false

def hasPre (l p : List UInt8) : Bool := decide (p.length ≤ l.length) && decide (l.take p.length = p)
theorem pre_run (k d fl : Nat) (l p : List UInt8) (H : Heap) : T k (d + 1) 45 fl [strV l, strV p] H = some (.bool (hasPre l p), H) := by
  refine T_scalar (F := L45) rfl rfl (by simp [L45]) rfl ?_
  by_cases h : p.length ≤ l.length
  · have e : (p.length : Int) ≤ l.length := by omega
    simp [L45, e, slcTV_take l .i64 p.length h, hasPre, h]
  · have e : ¬ (p.length : Int) ≤ l.length := by omega
    simp [L45, e, hasPre, h]

def cutPre (l p : List UInt8) : Value := .tuple #[strV (if hasPre l p then l.drop p.length else l), .bool (hasPre l p)]
theorem cutPre22_run (k d fl : Nat) (l p : List UInt8) (H : Heap) : T k (d + 2) 22 fl [strV l, strV p] H = some (cutPre l p, H) := by
  refine T_scalar (F := L22) rfl rfl (by simp [L22]) rfl ?_
  have hp := fun fl H => pre_run k d fl l p H
  cases h : hasPre l p with
  | true =>
    have h1 : p.length ≤ l.length := by simp [hasPre] at h; exact h.1
    simp [L22, hp, h, cutPre, slcTV_drop l .i64 p.length h1]
  | false => simp [L22, hp, h, cutPre]
theorem cutPre_run (k d fl : Nat) (l p : List UInt8) (H : Heap) : T k (d + 3) 15 fl [strV l, strV p] H = some (cutPre l p, H) := by
  refine T_scalar (F := L15) rfl rfl (by simp [L15]) rfl ?_
  have hp := fun fl H => cutPre22_run k d fl l p H
  simp [L15, hp, cutPre]

def reg (l : List UInt8) : Option Int := if hasPre l [120] then match num l.tail with
    | some v => if 0 ≤ v ∧ v ≤ 31 then some v else none
    | none => none
  else none
theorem reg_run (k d fl : Nat) (l : List UInt8) (H : Heap) (hs : l.length ≤ 1000) : T k (d + 4) 8 fl [strV l] H = some (optT (reg l), H) := by
  refine T_scalar (F := L8) rfl rfl (by simp [L8]) (optT_sc _) ?_
  have hp := fun fl H => cutPre_run k d fl l [120] H
  have hn : ∀ fl H, T k (d + 3) 6 fl [strV l.tail] H = some (optT (num l.tail), H) := fun fl H => num_run k (d + 2) fl _ H (by simp; omega)
  have hn2 : ∀ fl H, T k (d + 3) 6 fl [strV l] H = some (optT (num l), H) := fun fl H => num_run k (d + 2) fl _ H (by omega)
  cases h : hasPre l [120] with
  | true =>
    cases h2 : num l.tail with
    | none => simp [L8, hp, hn, h, h2, cutPre, reg, optT]
    | some v =>
      by_cases h3 : v < 0
      · have e : ¬ (0 ≤ v ∧ v ≤ 31) := by omega
        simp [L8, hp, hn, h, h2, cutPre, reg, optT, h3, e]
      · by_cases h4 : 31 < v
        · have e : ¬ (0 ≤ v ∧ v ≤ 31) := by omega
          simp [L8, hp, hn, h, h2, cutPre, reg, optT, h3, e, h4]
        · have e : (0 ≤ v ∧ v ≤ 31) := by omega
          simp [L8, hp, hn, h, h2, cutPre, reg, optT, h3, e, h4]
  | false =>
    cases h2 : num l with
    | none => simp [L8, hp, hn2, h, h2, cutPre, reg, optT]
    | some v => simp [L8, hp, hn2, h, h2, cutPre, reg, optT]

def refReg (l : List UInt8) : Option Int := match l with
  | 120 :: t => if 1 ≤ t.length ∧ t.length ≤ 2 then match refNum t with
    | some v => if 0 ≤ v ∧ v ≤ 31 then some v else none
    | none => none
    else none
  | _ => none
theorem refreg_run (k d fl : Nat) (l : List UInt8) (H : Heap) (hk : 30 ≤ k) (hl : l.length ≤ 300) : T k (d + 2) 9 fl [strV l] H = some (optT (refReg l), H) := by
  refine T_scalar (F := L9) rfl rfl (by simp [L9]) (optT_sc _) ?_
  cases l with
  | nil => simp [L9, refReg, optT]
  | cons b t =>
    by_cases h1 : t.length + 1 < 2
    · have e : (t.length : Int) + 1 < 2 := by omega
      have e2 : ¬ (1 ≤ t.length ∧ t.length ≤ 2) := by omega
      have hr : refReg (b :: t) = none := by
        unfold refReg
        split
        · rename_i hh; simp at hh; obtain ⟨_, rfl⟩ := hh; rw [if_neg e2]
        · rfl
      simp [L9, hr, optT, e]
    · have e : ¬ (t.length : Int) + 1 < 2 := by omega
      by_cases h2 : 3 < t.length + 1
      · have e3 : (3 : Int) < (t.length : Int) + 1 := by omega
        have e2 : ¬ (1 ≤ t.length ∧ t.length ≤ 2) := by omega
        have hr : refReg (b :: t) = none := by
          unfold refReg
          split
          · rename_i hh; simp at hh; obtain ⟨_, rfl⟩ := hh; rw [if_neg e2]
          · rfl
        simp [L9, hr, optT, e, e3]
      · have e3 : ¬ (3 : Int) < (t.length : Int) + 1 := by omega
        by_cases hb : b = 120
        · subst hb
          have e2 : (1 ≤ t.length ∧ t.length ≤ 2) := by omega
          have hs := slcTV_drop1 (120 :: t) .i64 (by simp)
          have hn := fun fl H => refnum_run k d fl t H hk (by simp at hl; omega)
          have hr : refReg (120 :: t) = match refNum t with
            | some v => if 0 ≤ v ∧ v ≤ 31 then some v else none
            | none => none := by simp only [refReg, if_pos e2]
          cases h2 : refNum t with
          | none => simp [L9, hr, hn, h2, optT, e, e3, hs]
          | some v =>
            by_cases h3 : v < 0
            · have e9 : ¬ (0 ≤ v ∧ v ≤ 31) := by omega
              simp [L9, hr, hn, h2, optT, e, e3, hs, h3, e9]
            · by_cases h4 : 31 < v
              · have e9 : ¬ (0 ≤ v ∧ v ≤ 31) := by omega
                simp [L9, hr, hn, h2, optT, e, e3, hs, h3, h4, e9]
              · have e9 : (0 ≤ v ∧ v ≤ 31) := by omega
                simp [L9, hr, hn, h2, optT, e, e3, hs, h3, h4, e9]
        · have eb : ¬ (b.toNat : Int) = 120 := fun h => hb (UInt8.toNat_inj.1 (by simpa using Int.ofNat.inj h))
          have hr : refReg (b :: t) = none := by
            unfold refReg
            split
            · rename_i hh; simp at hh; exact absurd hh.1 hb
            · rfl
          simp [L9, hr, optT, e, e3, eb]

theorem refReg_reg (l : List UInt8) : refReg l = reg l := by
  cases l with
  | nil => simp [refReg, reg, hasPre]
  | cons b t =>
    by_cases hb : b = 120
    · subst hb
      have hp : hasPre (120 :: t) [120] = true := by simp [hasPre]
      simp only [refReg, reg, hp, if_true, List.tail_cons, refNum_num]
      cases h : num t with
      | none => simp
      | some v =>
        by_cases hv : 0 ≤ v ∧ v ≤ 31
        · obtain ⟨h1, _⟩ := (num_iff t v).1 h
          obtain ⟨u, rfl⟩ : ∃ u : Nat, v = (u : Int) := ⟨v.natAbs, by omega⟩
          rw [Lib.itoa_nonneg] at h1
          have : 1 ≤ t.length ∧ t.length ≤ 2 := by
            rw [← h1]
            by_cases hu : u < 10
            · rw [decDigits_small hu]; simp
            · rw [decDigits_big hu, decDigits_small (by omega)]; simp
          rw [if_pos this]
        · simp [hv]
    · have hp : hasPre (b :: t) [120] = false := by simp [hasPre, hb]
      simp only [reg, hp]
      unfold refReg
      split
      · rename_i hh; simp at hh; exact absurd hh.1 hb
      · simp
end Go.Proofs.YtcaogimdpcaohaaDoor.V

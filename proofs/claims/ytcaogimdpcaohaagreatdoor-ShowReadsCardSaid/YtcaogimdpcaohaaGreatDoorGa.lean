/- Runs at all depths. -/
import Derived.Test.YtcaogimdpcaohaaGreatDoorTx
import Derived.Test.YtcaogimdpcaohaaGreatDoorLvE
import Derived.Test.YtcaogimdpcaohaaGreatDoorLvG
import Derived.Test.YtcaogimdpcaohaaGreatDoorLvF
set_option linter.unusedVariables false
set_option linter.unusedSimpArgs false
set_option linter.constructorNameAsVariable false
namespace Go.Lev.Seat
open Go Go.Lev
set_option linter.unusedSimpArgs false
set_option linter.unusedVariables false

theorem T_scalar {k d : Nat} {f : FuncId} {fl : Nat} {args : List Value} {H : Heap} {F : LFn} {v : Value} (hb : base f fl args H = none) (hf : fns f = some (F, 3)) (ha : args.all isSc = true) (hn : args.length ≤ F.nt) (hs : isScT v = true)
    (h : wp P0 (T k d) 0 k F.body (fun r s => (r = .ret ∨ r = .normal) ∧ retQ F.results v s) ⟨initEnv args, []⟩) : T k (d + 1) f fl args H = some (v, H) := tab_empty hb hf ha hn hs h

def optT : Option Int → Value
  | some v => .tuple #[.int .i64 v, .bool true]
  | none => .tuple #[.int .i64 0, .bool false]
theorem optT_sc (o : Option Int) : isScT (optT o) = true := by cases o <;> rfl

theorem refnum_rest (k d fl : Nat) (neg : Bool) (l : List UInt8) (env : Nat → Value) (H : Heap) (hk : 30 ≤ k) (hl : l.length ≤ 300) (h4 : evO env (.tmp 4) = strV l) (h5 : evO env (.tmp 5) = .bool neg) (h2 : evO env (.tmp 2) = .int .i64 0) (h3 : evO env (.tmp 3) = .bool false) :
    wp P0 (T k d) fl k (sndN 4 L_ref09_Number.body) (fun r s => (r = .ret ∨ r = .normal) ∧ retQ L_ref09_Number.results (optT (refNumD neg l)) s) ⟨env, H⟩ := by
  refine lwp_mid (fun s => evO s.env (.tmp 4) = strV l ∧ evO s.env (.tmp 5) = .bool neg ∧ evO s.env (.tmp 2) = .int .i64 0 ∧ evO s.env (.tmp 3) = .bool false ∧ ¬ (l = [] ∨ 19 < l.length ∨ (l.head? = some 48 ∧ (1 < l.length ∨ neg = true)))) ?_ ?_
  · by_cases h0 : l = []
    · subst h0
      simp [h4, h5, h2, h3, refNumD, optT, L_ref09_Number]
    · obtain ⟨b, r, rfl⟩ : ∃ b r, l = b :: r := List.exists_cons_of_ne_nil h0
      have e0 : ¬ (r.length : Int) + 1 = 0 := by omega
      by_cases h19 : 19 < r.length + 1
      · have e : (19 : Int) < (r.length : Int) + 1 := by omega
        simp [h4, h5, h2, h3, refNumD, optT, e0, e, h19, L_ref09_Number]
      · have e : ¬ (19 : Int) < (r.length : Int) + 1 := by omega
        by_cases hb : b = 48
        · subst hb
          by_cases h1 : r = []
          · subst h1
            cases neg <;> simp [h4, h5, h2, h3, refNumD, optT, L_ref09_Number]
          · have e1 : (1 : Int) < (r.length : Int) + 1 := by have := List.length_pos_iff.2 h1; omega
            have e2 : 0 < r.length := List.length_pos_iff.2 h1
            simp [h4, h5, h2, h3, refNumD, optT, e0, e, h19, e1, e2, L_ref09_Number]
        · have eb : ¬ (b.toNat : Int) = 48 := fun h => hb (UInt8.toNat_inj.1 (by simpa using Int.ofNat.inj h))
          simp [h4, h5, h2, h3, refNumD, optT, e0, e, h19, hb, eb, L_ref09_Number]
  intro env H ⟨h4, h5, h2, h3, hc⟩
  refine lwp_mid (fun s => evO s.env (.tmp 4) = strV l ∧ evO s.env (.tmp 5) = .bool neg ∧ evO s.env (.tmp 2) = .int .i64 0 ∧ evO s.env (.tmp 3) = .bool false ∧ evO s.env (.tmp 6) = .int .u64 0) ?_ ?_
  · simp [h4, h5, h2, h3]
  intro env H ⟨h4, h5, h2, h3, h6⟩
  refine lwp_mid (fun s => evO s.env (.tmp 4) = strV l ∧ evO s.env (.tmp 5) = .bool neg ∧ evO s.env (.tmp 2) = .int .i64 0 ∧ evO s.env (.tmp 3) = .bool false ∧ ∃ n : Nat, evO s.env (.tmp 6) = .int .u64 n ∧ Lib.decFrom 0 l = some n) ?_ ?_
  · refine lwp_mid (fun s => evO s.env (.tmp 4) = strV l ∧ evO s.env (.tmp 5) = .bool neg ∧ evO s.env (.tmp 2) = .int .i64 0 ∧ evO s.env (.tmp 3) = .bool false ∧ evO s.env (.tmp 6) = .int .u64 0 ∧ evO s.env (.tmp 7) = .int .i64 0) ?_ ?_
    · simp [h4, h5, h2, h3, h6]
    intro env H ⟨h4, h5, h2, h3, h6, h7⟩
    have hlen : l.length ≤ 19 := by omega
    refine lwp_block_of (lwp_loop (fun s => ∃ i n : Nat, i ≤ l.length ∧ Lib.decFrom 0 (l.take i) = some n ∧ n < 10 ^ i ∧ evO s.env (.tmp 4) = strV l ∧ evO s.env (.tmp 5) = .bool neg ∧ evO s.env (.tmp 2) = .int .i64 0 ∧ evO s.env (.tmp 3) = .bool false ∧ evO s.env (.tmp 6) = .int .u64 n ∧ evO s.env (.tmp 7) = .int .i64 i)
      (fun s => match evO s.env (.tmp 7) with | .int _ i => l.length - i.toNat | _ => 0) ?_ ?_ ?_)
    · rintro ⟨env, H⟩ ⟨i, n, hi, hn, hlt, h4, h5, h2, h3, h6, h7⟩ _
      by_cases hil : i < l.length
      · have hz : (i : Int) < (l.length : Int) := by omega
        have hg : l[i]? = some l[i] := List.getElem?_eq_getElem hil
        by_cases hd : 48 ≤ l[i].toNat ∧ l[i].toNat ≤ 57
        · have hdv : Lib.digitVal l[i] = some (l[i].toNat - 48) := by simp [Lib.digitVal, hd]
          have hstep := Lib.decFrom_take l i 0 n l[i] _ hn hg hdv
          have h10 : n < 10000000000000000000 := Nat.lt_of_lt_of_le hlt (Nat.le_trans (Nat.pow_le_pow_right (by omega) (show i ≤ 19 by omega)) (by decide))
          have e1 : ¬ ((l[i].toNat : Int) < 48) := by omega
          have e2 : ¬ ((57 : Int) < (l[i].toNat : Int)) := by omega
          have e3 : IntKind.u64.wrap (IntKind.u64.wrap (10 * (n : Int)) + IntKind.u64.wrap (IntKind.u8.wrap ((l[i].toNat : Int) - 48))) = ((n * 10 + (l[i].toNat - 48) : Nat) : Int) := by
            simp only [IntKind.wrap_u64, IntKind.wrap_u8]
            rcases Nat.lt_or_ge n 1844674407370955160 with h | h
            · omega
            · exfalso
              have : n < 10 ^ i := hlt
              have h18 : i ≤ 18 := by omega
              have : (10:Nat) ^ i ≤ 10 ^ 18 := Nat.pow_le_pow_right (by omega) h18
              omega
          have e4 : IntKind.i64.wrap ((i : Int) + 1) = ((i + 1 : Nat) : Int) := by
            simp only [IntKind.wrap_i64]; omega
          have e5 : n * 10 + (l[i].toNat - 48) < 10 ^ (i + 1) := by rw [Nat.pow_succ]; omega
          have e6 : l.length - (i + 1) < l.length - i := by omega
          simp [h4, h5, h2, h3, h6, h7, hz, hg, hil, e1, e2, e3, e4, e6]
          exact ⟨i + 1, by omega, _, by simpa using hstep, e5, by simp, by simp⟩
        · have hn1 : Lib.decFrom 0 l = none := by
            rcases h : Lib.decFrom 0 l with _ | m
            · rfl
            · obtain ⟨x, hx⟩ := Lib.digit_of_decFrom l 0 m h i _ hg
              simp [Lib.digitVal, hd] at hx
          have hr : refNumD neg l = none := by unfold refNumD; rw [if_neg hc, hn1]
          rcases Nat.lt_or_ge l[i].toNat 48 with hlo | hhi
          · have e1 : ((l[i].toNat : Int) < 48) := by omega
            simp [h4, h5, h2, h3, h6, h7, hz, hg, hil, e1, hr, optT, L_ref09_Number]
          · have e1 : ¬ ((l[i].toNat : Int) < 48) := by omega
            have e2 : ((57 : Int) < (l[i].toNat : Int)) := by omega
            simp [h4, h5, h2, h3, h6, h7, hz, hg, hil, e1, e2, hr, optT, L_ref09_Number]
      · have hz : ¬ (i : Int) < (l.length : Int) := by omega
        have hie : i = l.length := by omega
        subst hie
        simp [h4, h5, h2, h3, h6, h7]
        exact ⟨n, rfl, by simpa using hn⟩
    · exact ⟨0, 0, by omega, by simp [Lib.decFrom], by simp, h4, h5, h2, h3, by simpa using h6, by simpa using h7⟩
    · simp [h7]; omega
  intro env H ⟨h4, h5, h2, h3, n, h6, hn⟩
  have hr : refNumD neg l = if 9223372036854775808 < n ∨ (n = 9223372036854775808 ∧ neg = false) then none else some (if neg then -(n : Int) else n) := by
    unfold refNumD; rw [if_neg hc, hn]
  by_cases g1 : 9223372036854775808 < n
  · have e1 : (9223372036854775808 : Int) < n := by omega
    simp [h4, h5, h2, h3, h6, e1, hr, g1, optT, L_ref09_Number]
  · have e1 : ¬ (9223372036854775808 : Int) < n := by omega
    by_cases g2 : n = 9223372036854775808
    · subst g2
      have e3 : IntKind.i64.wrap (IntKind.u64.wrap (0 - 9223372036854775808)) = -9223372036854775808 := by decide
      cases neg <;> simp [h4, h5, h2, h3, h6, hr, optT, L_ref09_Number]
      exact e3
    · have e2 : ¬ (n : Int) = 9223372036854775808 := by omega
      have e3 : IntKind.i64.wrap (IntKind.u64.wrap (0 - (n : Int))) = -(n : Int) := by simp only [IntKind.wrap_i64, IntKind.wrap_u64]; omega
      have e4 : IntKind.i64.wrap (n : Int) = n := by simp only [IntKind.wrap_i64]; omega
      cases neg <;> simp [h4, h5, h2, h3, h6, e1, e2, hr, g1, g2, optT, L_ref09_Number, e4]
      simpa using e3

theorem refnum_run (k d fl : Nat) (l : List UInt8) (H : Heap) (hk : 30 ≤ k) (hl : l.length ≤ 300) : T k (d + 1) n_ref09_Number fl [strV l] H = some (optT (refNum l), H) := by
  refine T_scalar (F := L_ref09_Number) rfl rfl rfl (by simp [L_ref09_Number]) (optT_sc _) ?_
  refine lwp_mid (fun s => evO s.env (.tmp 0) = strV l ∧ evO s.env (.tmp 2) = .int .i64 0 ∧ evO s.env (.tmp 3) = .bool false) ?_ ?_
  · simp
  intro env H' ⟨h0, h2, h3⟩
  refine lwp_mid (fun s => evO s.env (.tmp 4) = strV l ∧ evO s.env (.tmp 2) = .int .i64 0 ∧ evO s.env (.tmp 3) = .bool false) ?_ ?_
  · simp [h0, h2, h3]
  intro env H' ⟨h4, h2, h3⟩
  refine lwp_mid (fun s => evO s.env (.tmp 4) = strV l ∧ evO s.env (.tmp 2) = .int .i64 0 ∧ evO s.env (.tmp 3) = .bool false ∧ evO s.env (.tmp 5) = .bool false) ?_ ?_
  · simp [h4, h2, h3]
  intro env H' ⟨h4, h2, h3, h5⟩
  refine lwp_mid (fun s => evO s.env (.tmp 2) = .int .i64 0 ∧ evO s.env (.tmp 3) = .bool false ∧ ∃ neg r, refNum l = refNumD neg r ∧ r.length ≤ 300 ∧ evO s.env (.tmp 4) = strV r ∧ evO s.env (.tmp 5) = .bool neg) ?_ ?_
  · cases l with
    | nil =>
      simp [h4, h5, h2, h3]
      rfl
    | cons b r =>
      have e0 : (0 : Int) < (r.length : Int) + 1 := by omega
      by_cases hb : b = 45
      · subst hb
        have e := slcTV_drop1 (45 :: r) .i64 (by simp)
        simp [h4, h5, h2, h3, e0, e]
        exact ⟨rfl, by simp at hl; omega⟩
      · have eb : ¬ (b.toNat : Int) = 45 := fun h => hb (UInt8.toNat_inj.1 (by simpa using Int.ofNat.inj h))
        simp [h4, h5, h2, h3, e0, eb]
        refine ⟨?_, by simp at hl; omega⟩
        unfold refNum
        split
        · rename_i d hd; simp at hd; exact absurd hd.1 hb
        · rfl
  intro env H' ⟨h2, h3, neg, r, e, hr, h4, h5⟩
  rw [e]
  exact refnum_rest k d 0 neg r env H' hk hr h4 h5 h2 h3

theorem parse_row (k d fl : Nat) (l : List UInt8) (H : Heap) (hs : l.length ≤ 281474976710656) :
    T k d n_strconv_ParseInt fl [strV l, .int .i64 10, .int .i64 64] H = match Lib.parseIntB 64 l with
      | .ok v => some (.tuple #[.int .i64 v, .nilIface], H)
      | .range => some (.tuple #[.int .i64 (Lib.intSat 64 l), .iface errT (.pointer (some ⟨H.length, 0, some 0⟩))], H ++ [emptyBox])
      | _ => some (.tuple #[.int .i64 0, .iface errT (.pointer (some ⟨H.length, 0, some 0⟩))], H ++ [emptyBox]) := by
  have : base n_strconv_ParseInt = rParse errT := rfl
  cases h : Lib.parseIntB 64 l <;> exact tab_base (by rw [this]; simp [rParse, hs, h])

theorem fmt_row (k d fl : Nat) (n : Int) (H : Heap) (h0 : -9223372036854775808 ≤ n ∧ n ≤ 9223372036854775807) :
    T k d n_strconv_FormatInt fl [.int .i64 n, .int .i64 10] H = some (strV (Lib.itoa n), H) := by
  have : base n_strconv_FormatInt = scRow gFmt := rfl
  exact tab_base (by rw [this]; simp [scRow, gFmt, h0, isSc, isSc0])

theorem num_run (k d fl : Nat) (l : List UInt8) (H : Heap) (hs : l.length ≤ 281474976710656) :
    T k (d + 1) n_show_Number fl [strV l] H = some (optT (num l), H) := by
  refine T_scalar (F := L_show_Number) rfl rfl rfl (by simp [L_show_Number]) (optT_sc _) ?_
  have hp := fun fl H => parse_row k d fl l H hs
  unfold num
  cases h : Lib.parseIntB 64 l with
  | ok v =>
    have hf := fun fl H => fmt_row k d fl v H (parse_bounds h)
    by_cases he : Lib.itoa v = l <;> simp [L_show_Number, hp, h, hf, he, optT]
  | _ => simp [L_show_Number, hp, h, optT]
end Go.Lev.Seat

namespace Go.Lev.Seat
open Go Go.Lev
set_option linter.unusedSimpArgs false
set_option linter.unusedVariables false

def hasPre (l p : List UInt8) : Bool := decide (p.length ≤ l.length) && decide (l.take p.length = p)
theorem pre_run (k d fl : Nat) (l p : List UInt8) (H : Heap) : T k (d + 1) n_stringslite_HasPrefix fl [strV l, strV p] H = some (.bool (hasPre l p), H) := by
  refine T_scalar (F := L_stringslite_HasPrefix) rfl rfl rfl (by simp [L_stringslite_HasPrefix]) rfl ?_
  by_cases h : p.length ≤ l.length
  · have e : (p.length : Int) ≤ l.length := by omega
    simp [L_stringslite_HasPrefix, e, slcTV_take l .i64 p.length h, hasPre, h]
  · have e : ¬ (p.length : Int) ≤ l.length := by omega
    simp [L_stringslite_HasPrefix, e, hasPre, h]

def cutPre (l p : List UInt8) : Value := .tuple #[strV (if hasPre l p then l.drop p.length else l), .bool (hasPre l p)]
theorem cutPre22_run (k d fl : Nat) (l p : List UInt8) (H : Heap) : T k (d + 2) n_stringslite_CutPrefix fl [strV l, strV p] H = some (cutPre l p, H) := by
  refine T_scalar (F := L_stringslite_CutPrefix) rfl rfl rfl (by simp [L_stringslite_CutPrefix]) rfl ?_
  have hp := fun fl H => pre_run k d fl l p H
  cases h : hasPre l p with
  | true =>
    have h1 : p.length ≤ l.length := by simp [hasPre] at h; exact h.1
    simp [L_stringslite_CutPrefix, hp, h, cutPre, slcTV_drop l .i64 p.length h1]
  | false => simp [L_stringslite_CutPrefix, hp, h, cutPre]
theorem cutPre_run (k d fl : Nat) (l p : List UInt8) (H : Heap) : T k (d + 3) n_strings_CutPrefix fl [strV l, strV p] H = some (cutPre l p, H) := by
  refine T_scalar (F := L_strings_CutPrefix) rfl rfl rfl (by simp [L_strings_CutPrefix]) rfl ?_
  have hp := fun fl H => cutPre22_run k d fl l p H
  simp [L_strings_CutPrefix, hp, cutPre]

def reg (l : List UInt8) : Option Int := if hasPre l [120] then match num l.tail with
    | some v => if 0 ≤ v ∧ v ≤ 31 then some v else none
    | none => none
  else none
theorem reg_run (k d fl : Nat) (l : List UInt8) (H : Heap) (hs : l.length ≤ 1000) : T k (d + 4) n_show_Register fl [strV l] H = some (optT (reg l), H) := by
  refine T_scalar (F := L_show_Register) rfl rfl rfl (by simp [L_show_Register]) (optT_sc _) ?_
  have hp := fun fl H => cutPre_run k d fl l [120] H
  have hn : ∀ fl H, T k (d + 3) n_show_Number fl [strV l.tail] H = some (optT (num l.tail), H) := fun fl H => num_run k (d + 2) fl _ H (by simp; omega)
  have hn2 : ∀ fl H, T k (d + 3) n_show_Number fl [strV l] H = some (optT (num l), H) := fun fl H => num_run k (d + 2) fl _ H (by omega)
  cases h : hasPre l [120] with
  | true =>
    cases h2 : num l.tail with
    | none => simp [L_show_Register, hp, hn, h, h2, cutPre, reg, optT]
    | some v =>
      by_cases h3 : v < 0
      · have e : ¬ (0 ≤ v ∧ v ≤ 31) := by omega
        simp [L_show_Register, hp, hn, h, h2, cutPre, reg, optT, h3, e]
      · by_cases h4 : 31 < v
        · have e : ¬ (0 ≤ v ∧ v ≤ 31) := by omega
          simp [L_show_Register, hp, hn, h, h2, cutPre, reg, optT, h3, e, h4]
        · have e : (0 ≤ v ∧ v ≤ 31) := by omega
          simp [L_show_Register, hp, hn, h, h2, cutPre, reg, optT, h3, e, h4]
  | false =>
    cases h2 : num l with
    | none => simp [L_show_Register, hp, hn2, h, h2, cutPre, reg, optT]
    | some v => simp [L_show_Register, hp, hn2, h, h2, cutPre, reg, optT]

def refReg (l : List UInt8) : Option Int := match l with
  | 120 :: t => if 1 ≤ t.length ∧ t.length ≤ 2 then match refNum t with
    | some v => if 0 ≤ v ∧ v ≤ 31 then some v else none
    | none => none
    else none
  | _ => none
theorem refreg_run (k d fl : Nat) (l : List UInt8) (H : Heap) (hk : 30 ≤ k) (hl : l.length ≤ 300) : T k (d + 2) n_ref09_Register fl [strV l] H = some (optT (refReg l), H) := by
  refine T_scalar (F := L_ref09_Register) rfl rfl rfl (by simp [L_ref09_Register]) (optT_sc _) ?_
  cases l with
  | nil => simp [L_ref09_Register, refReg, optT]
  | cons b t =>
    by_cases h1 : t.length + 1 < 2
    · have e : (t.length : Int) + 1 < 2 := by omega
      have e2 : ¬ (1 ≤ t.length ∧ t.length ≤ 2) := by omega
      have hr : refReg (b :: t) = none := by
        unfold refReg
        split
        · rename_i hh; simp at hh; obtain ⟨_, rfl⟩ := hh; rw [if_neg e2]
        · rfl
      simp [L_ref09_Register, hr, optT, e]
    · have e : ¬ (t.length : Int) + 1 < 2 := by omega
      by_cases h2 : 3 < t.length + 1
      · have e3 : (3 : Int) < (t.length : Int) + 1 := by omega
        have e2 : ¬ (1 ≤ t.length ∧ t.length ≤ 2) := by omega
        have hr : refReg (b :: t) = none := by
          unfold refReg
          split
          · rename_i hh; simp at hh; obtain ⟨_, rfl⟩ := hh; rw [if_neg e2]
          · rfl
        simp [L_ref09_Register, hr, optT, e, e3]
      · have e3 : ¬ (3 : Int) < (t.length : Int) + 1 := by omega
        by_cases hb : b = 120
        · subst hb
          have e2 : (1 ≤ t.length ∧ t.length ≤ 2) := by omega
          have hs := slcTV_drop1 (120 :: t) .i64 (by simp)
          have hn := fun fl H => refnum_run k d fl t H hk (by simp at hl; omega)
          have hr : refReg (120 :: t) = match refNum t with
            | some v => if 0 ≤ v ∧ v ≤ 31 then some v else none
            | none => none := by simp only [refReg, if_pos e2]
          cases h2 : refNum t with
          | none => simp [L_ref09_Register, hr, hn, h2, optT, e, e3, hs]
          | some v =>
            by_cases h3 : v < 0
            · have e9 : ¬ (0 ≤ v ∧ v ≤ 31) := by omega
              simp [L_ref09_Register, hr, hn, h2, optT, e, e3, hs, h3, e9]
            · by_cases h4 : 31 < v
              · have e9 : ¬ (0 ≤ v ∧ v ≤ 31) := by omega
                simp [L_ref09_Register, hr, hn, h2, optT, e, e3, hs, h3, h4, e9]
              · have e9 : (0 ≤ v ∧ v ≤ 31) := by omega
                simp [L_ref09_Register, hr, hn, h2, optT, e, e3, hs, h3, h4, e9]
        · have eb : ¬ (b.toNat : Int) = 120 := fun h => hb (UInt8.toNat_inj.1 (by simpa using Int.ofNat.inj h))
          have hr : refReg (b :: t) = none := by
            unfold refReg
            split
            · rename_i hh; simp at hh; exact absurd hh.1 hb
            · rfl
          simp [L_ref09_Register, hr, optT, e, e3, eb]

theorem refReg_reg (l : List UInt8) : refReg l = reg l := by
  cases l with
  | nil => simp [refReg, reg, hasPre]
  | cons b t =>
    by_cases hb : b = 120
    · subst hb
      have hp : hasPre (120 :: t) [120] = true := by simp [hasPre]
      simp only [refReg, reg, hp, if_true, List.tail_cons, refNum_num]
      cases h : num t with
      | none => simp
      | some v =>
        by_cases hv : 0 ≤ v ∧ v ≤ 31
        · obtain ⟨h1, _⟩ := (num_iff t v).1 h
          obtain ⟨u, rfl⟩ : ∃ u : Nat, v = (u : Int) := ⟨v.natAbs, by omega⟩
          rw [Lib.itoa_nonneg] at h1
          have : 1 ≤ t.length ∧ t.length ≤ 2 := by
            rw [← h1]
            by_cases hu : u < 10
            · rw [decDigits_small hu]; simp
            · rw [decDigits_big hu, decDigits_small (by omega)]; simp
          rw [if_pos this]
        · simp [hv]
    · have hp : hasPre (b :: t) [120] = false := by simp [hasPre, hb]
      simp only [reg, hp]
      unfold refReg
      split
      · rename_i hh; simp at hh; exact absurd hh.1 hb
      · simp
end Go.Lev.Seat

namespace Go.Lev.Seat
open Go Go.Lev
set_option linter.unusedSimpArgs false
set_option linter.unusedVariables false

theorem digit_byte (m : Nat) : (UInt8.ofNat (IntKind.u8.wrap (IntKind.u64.wrap (48 + (m : Int) % 10))).toNat) = UInt8.ofNat (48 + m % 10) := by
  have : (IntKind.u8.wrap (IntKind.u64.wrap (48 + (m : Int) % 10))).toNat = 48 + m % 10 := by
    simp only [IntKind.wrap_u8, IntKind.wrap_u64]; omega
  rw [this]

theorem digits_run (k d fl : Nat) (n : Int) (H : Heap) (hk : 30 ≤ k) (h0 : -9223372036854775808 ≤ n) (h1 : n ≤ 9223372036854775807) : T k (d + 1) n_ref09_Digits fl [.int .i64 n] H = some (strV (Lib.itoa n), H) := by
  refine T_scalar (F := L_ref09_Digits) rfl rfl rfl (by simp [L_ref09_Digits]) rfl ?_
  refine lwp_mid (fun s => evO s.env (.tmp 0) = .int .i64 n) ?_ ?_
  · simp
  intro env H' h
  refine lwp_mid (fun s => evO s.env (.tmp 0) = .int .i64 n ∧ evO s.env (.tmp 3) = strV []) ?_ ?_
  · simp [h]
  intro env H' ⟨h, h3⟩
  refine lwp_mid (fun s => evO s.env (.tmp 0) = .int .i64 n ∧ evO s.env (.tmp 3) = strV [] ∧ evO s.env (.tmp 4) = .int .u64 (IntKind.u64.wrap n)) ?_ ?_
  · simp [h, h3]
  intro env H' ⟨h, h3, h4⟩
  refine lwp_mid (fun s => evO s.env (.tmp 0) = .int .i64 n ∧ evO s.env (.tmp 3) = strV [] ∧ evO s.env (.tmp 4) = .int .u64 (n.natAbs : Nat)) ?_ ?_
  · by_cases hn : n < 0
    · have e : IntKind.u64.wrap (0 - IntKind.u64.wrap n) = (n.natAbs : Nat) := by simp only [IntKind.wrap_u64]; omega
      simp [h, h3, h4, hn]
      simpa using e
    · have e : IntKind.u64.wrap n = (n.natAbs : Nat) := by simp only [IntKind.wrap_u64]; omega
      simp [h, h3, h4, hn]
      simpa using e
  intro env H' ⟨h, h3, h4⟩
  have hu : n.natAbs ≤ 9223372036854775808 := by omega
  refine lwp_mid (fun s => evO s.env (.tmp 0) = .int .i64 n ∧ evO s.env (.tmp 3) = strV (Lib.decDigits n.natAbs)) ?_ ?_
  · refine lwp_block_of (lwp_loop (fun s => evO s.env (.tmp 0) = .int .i64 n ∧ ∃ (m : Nat) (a : List UInt8), m ≤ 9223372036854775808 ∧ evO s.env (.tmp 3) = strV a ∧ evO s.env (.tmp 4) = .int .u64 m ∧ Lib.decDigits n.natAbs = Lib.decDigits m ++ a)
      (fun s => match evO s.env (.tmp 4) with | .int _ m => (Lib.decDigits m.toNat).length | _ => 0) ?_ ⟨h, n.natAbs, [], hu, h3, h4, by simp⟩ ?_)
    · rintro ⟨env, H'⟩ ⟨h, m, a, hm, h3, h4, he⟩ _
      have ha : a.length ≤ 19 := by
        have q1 := congrArg List.length he
        have q2 := decDigits_len n.natAbs (by omega)
        simp at q1
        omega
      have hs : (a.length + 1) ≤ 4611686018427387904 := by omega
      have e2 : IntKind.u64.wrap ((m : Int) / 10) = ((m / 10 : Nat) : Int) := by simp only [IntKind.wrap_u64]; omega
      have e4 : IntKind.u8.wrap (IntKind.u64.wrap (48 + (m : Int) % 10)) = ((48 + m % 10 : Nat) : Int) := by
        simp only [IntKind.wrap_u8, IntKind.wrap_u64]; omega
      have e5 : (m : Int).tmod 10 = (m : Int) % 10 := Int.tmod_eq_emod_of_nonneg (by omega)
      have e8 : (m : Int).tdiv 10 = (m : Int) / 10 := Int.tdiv_eq_ediv_of_nonneg (by omega)
      obtain ⟨c, hc⟩ : ∃ c, c = UInt8.ofNat (48 + m % 10) := ⟨_, rfl⟩
      have e3 : UInt8.ofNat (48 + (m : Int) % 10).toNat = c := by rw [hc]; congr 1
      have ea := bv_sadd [c] a (by simp; omega)
      by_cases hz : m < 10
      · have e6 : (m : Int) / 10 = 0 := by omega
        have e7 : IntKind.u64.wrap 0 = 0 := by decide
        simp [h, h3, h4, e3, e4, e5, e8, e6, e7, ea, fillL, setSeg, zeroRow, Value.cells, b2sV, rdN, bytesOf, byteOf?]
        have h9 : m % 10 = m := by omega
        rw [h9] at hc
        rw [he, decDigits_small hz, hc]
        rfl
      · have e6 : ¬ (m : Int) / 10 = 0 := by omega
        have e7 : (Lib.decDigits (m / 10)).length < (Lib.decDigits m).length := by
          rw [decDigits_big hz]; simp
        simp [h, h3, h4, e2, e3, e4, e5, e8, e6, ea, fillL, setSeg, zeroRow, Value.cells, b2sV, rdN, bytesOf, byteOf?]
        have e9 : ((m : Int) / 10).toNat = m / 10 := by omega
        rw [e9]
        refine ⟨⟨m / 10, by omega, by simp, ?_⟩, e7⟩
        rw [he, decDigits_big hz, hc]
        simp
    · simp [h4]
      have := decDigits_len n.natAbs (by omega)
      omega
  intro env H' ⟨h, h3⟩
  have hl := decDigits_len n.natAbs (by omega)
  by_cases hn : n < 0
  · have ea := bv_sadd [45] (Lib.decDigits n.natAbs) (by simp; omega)
    simp [h, h3, hn, ea, L_ref09_Digits, Lib.itoa]
  · have e : n.toNat = n.natAbs := by omega
    simp [h, h3, hn, L_ref09_Digits, Lib.itoa, e]
end Go.Lev.Seat


namespace Go.Lev.Seat
open Go Go.Lev
set_option linter.unusedSimpArgs false
set_option linter.unusedVariables false

/-- Rounds of a loop, at most. -/
def K : Nat := 100000
/-- A function of plain values: what it hands back, at all depths from d0 on, beside any memory. -/
def Run (d0 : Nat) (f : FuncId) (args : List Value) (v : Value) : Prop := ∀ d fl H, d0 ≤ d → T K d f fl args H = some (v, H)

theorem Run.mono {d0 d1 : Nat} {f : FuncId} {args : List Value} {v : Value} (h : Run d0 f args v) (hd : d0 ≤ d1) : Run d1 f args v := fun d fl H hd' => h d fl H (by omega)
theorem Run.any {d0 : Nat} {f : FuncId} {args : List Value} {v : Value} (h : Run d0 f args v) {d : Nat} (hd : d0 ≤ d) : ∀ fl H, T K d f fl args H = some (v, H) := fun fl H => h d fl H hd
theorem Run.old {k d0 : Nat} {f : FuncId} {args : List Value} {v : Value} (h : ∀ fl H, T k d0 f fl args H = some (v, H)) (hk : k ≤ K) : Run d0 f args v := fun d fl H hd => tab_mono hk hd _ _ _ _ _ (h fl H)
theorem Run.old3 {d0 : Nat} {f : FuncId} {args : List Value} {v : Value} (h : ∀ fl H, T 300 d0 f fl args H = some (v, H)) : Run d0 f args v := Run.old h (by decide)
theorem Run.closed {d0 : Nat} {f : FuncId} {args : List Value} {v : Value} {F : LFn} (hb : ∀ fl H, base f fl args H = none) (hf : fns f = some (F, 3)) (h : T 300 (d0 + 1) f 0 args [] = some (v, [])) : Run (d0 + 1) f args v := Run.old3 fun fl H => tab_lift hb hf h
theorem Run.text {d0 : Nat} {f : FuncId} {args : List Value} {F : LFn} {v : Value} (hb : ∀ fl H, base f fl args H = none) (hf : fns f = some (F, 3)) (ha : args.all isSc = true) (hn : args.length ≤ F.nt) (hs : isScT v = true)
    (h : ∀ d, d0 ≤ d → wp P0 (T K d) 0 K F.body (fun r s => (r = .ret ∨ r = .normal) ∧ retQ F.results v s) ⟨initEnv args, []⟩) : Run (d0 + 1) f args v := fun d fl H hd => by
  obtain ⟨e, rfl⟩ : ∃ e, d = e + 1 := ⟨d - 1, by omega⟩
  exact tab_empty (hb fl H) hf ha hn hs (h e (by omega))
/-- Of whose result only something is told. -/
theorem Run.part {d0 : Nat} {f : FuncId} {args : List Value} {F : LFn} {R : Value → Prop} (hb : ∀ fl H, base f fl args H = none) (hf : fns f = some (F, 3)) (ha : args.all isSc = true) (hn : args.length ≤ F.nt)
    (h : wp P0 (T K d0) 0 K F.body (fun r s => (r = .ret ∨ r = .normal) ∧ ∃ v, retQ F.results v s ∧ isScT v = true ∧ R v) ⟨initEnv args, []⟩) : ∃ v, R v ∧ Run (d0 + 1) f args v := by
  obtain ⟨v, h1, h2⟩ := tab_some hb hf ha hn h
  exact ⟨v, h1, Run.old (fun fl H => h2 fl H) (Nat.le_refl _)⟩
end Go.Lev.Seat

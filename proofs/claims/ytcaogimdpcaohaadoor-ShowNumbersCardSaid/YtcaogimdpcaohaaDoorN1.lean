/- A part of the proof: see the last text of this claim. -/
import Derived.Test.YtcaogimdpcaohaaDoorD1
import Derived.Test.YtcaogimdpcaohaaDoorLev19
import Derived.Test.YtcaogimdpcaohaaDoorNum
namespace Go.Proofs.YtcaogimdpcaohaaDoor.V
open Go Go.Lev
set_option linter.unusedSimpArgs false
set_option linter.unusedVariables false

theorem T_scalar {k d : Nat} {f : FuncId} {fl : Nat} {args : List Value} {H : Heap} {F : LFn} {v : Value} (hb : base f fl args H = none) (hf : fns f = some (F, 2)) (hn : args.length ≤ F.nt) (hs : isScT v = true)
    (h : wp Tryd.prog (T k d) H.length k F.body (fun r s => (r = .ret ∨ r = .normal) ∧ retQ F.results v s) ⟨initEnv args, H⟩) : T k (d + 1) f fl args H = some (v, H) := tab_scalar hb hf hn hs h

def optT : Option Int → Value
  | some v => .tuple #[.int .i64 v, .bool true]
  | none => .tuple #[.int .i64 0, .bool false]
theorem optT_sc (o : Option Int) : isScT (optT o) = true := by cases o <;> rfl

theorem refnum_rest (k d fl : Nat) (neg : Bool) (l : List UInt8) (env : Nat → Value) (H : Heap) (hk : 30 ≤ k) (hl : l.length ≤ 300) (h4 : evO env (.tmp 4) = strV l) (h5 : evO env (.tmp 5) = .bool neg) (h2 : evO env (.tmp 2) = .int .i64 0) (h3 : evO env (.tmp 3) = .bool false) :
    wp Tryd.prog (T k d) fl k (sndN 4 L7.body) (fun r s => (r = .ret ∨ r = .normal) ∧ retQ L7.results (optT (refNumD neg l)) s) ⟨env, H⟩ := by
  refine lwp_mid (fun s => evO s.env (.tmp 4) = strV l ∧ evO s.env (.tmp 5) = .bool neg ∧ evO s.env (.tmp 2) = .int .i64 0 ∧ evO s.env (.tmp 3) = .bool false ∧ ¬ (l = [] ∨ 19 < l.length ∨ (l.head? = some 48 ∧ (1 < l.length ∨ neg = true)))) ?_ ?_
  · by_cases h0 : l = []
    · subst h0
      simp [h4, h5, h2, h3, refNumD, optT, L7]
    · obtain ⟨b, r, rfl⟩ : ∃ b r, l = b :: r := List.exists_cons_of_ne_nil h0
      have e0 : ¬ (r.length : Int) + 1 = 0 := by omega
      by_cases h19 : 19 < r.length + 1
      · have e : (19 : Int) < (r.length : Int) + 1 := by omega
        simp [h4, h5, h2, h3, refNumD, optT, e0, e, h19, L7]
      · have e : ¬ (19 : Int) < (r.length : Int) + 1 := by omega
        by_cases hb : b = 48
        · subst hb
          by_cases h1 : r = []
          · subst h1
            cases neg <;> simp [h4, h5, h2, h3, refNumD, optT, L7]
          · have e1 : (1 : Int) < (r.length : Int) + 1 := by have := List.length_pos_iff.2 h1; omega
            have e2 : 0 < r.length := List.length_pos_iff.2 h1
            simp [h4, h5, h2, h3, refNumD, optT, e0, e, h19, e1, e2, L7]
        · have eb : ¬ (b.toNat : Int) = 48 := fun h => hb (UInt8.toNat_inj.1 (by simpa using Int.ofNat.inj h))
          simp [h4, h5, h2, h3, refNumD, optT, e0, e, h19, hb, eb, L7]
  intro env H ⟨h4, h5, h2, h3, hc⟩
  refine lwp_mid (fun s => evO s.env (.tmp 4) = strV l ∧ evO s.env (.tmp 5) = .bool neg ∧ evO s.env (.tmp 2) = .int .i64 0 ∧ evO s.env (.tmp 3) = .bool false ∧ evO s.env (.tmp 6) = .int .u64 0) ?_ ?_
  · simp [h4, h5, h2, h3]
  intro env H ⟨h4, h5, h2, h3, h6⟩
  refine lwp_mid (fun s => evO s.env (.tmp 4) = strV l ∧ evO s.env (.tmp 5) = .bool neg ∧ evO s.env (.tmp 2) = .int .i64 0 ∧ evO s.env (.tmp 3) = .bool false ∧ ∃ n : Nat, evO s.env (.tmp 6) = .int .u64 n ∧ Lib.decFrom 0 l = some n) ?_ ?_
  · refine lwp_mid (fun s => evO s.env (.tmp 4) = strV l ∧ evO s.env (.tmp 5) = .bool neg ∧ evO s.env (.tmp 2) = .int .i64 0 ∧ evO s.env (.tmp 3) = .bool false ∧ evO s.env (.tmp 6) = .int .u64 0 ∧ evO s.env (.tmp 7) = .int .i64 0) ?_ ?_
    · simp [h4, h5, h2, h3, h6]
    intro env H ⟨h4, h5, h2, h3, h6, h7⟩
    have hlen : l.length ≤ 19 := by omega
    refine lwp_block_of (lwp_loop (fun s => ∃ i n : Nat, i ≤ l.length ∧ Lib.decFrom 0 (l.take i) = some n ∧ n < 10 ^ i ∧ evO s.env (.tmp 4) = strV l ∧ evO s.env (.tmp 5) = .bool neg ∧ evO s.env (.tmp 2) = .int .i64 0 ∧ evO s.env (.tmp 3) = .bool false ∧ evO s.env (.tmp 6) = .int .u64 n ∧ evO s.env (.tmp 7) = .int .i64 i)
      (fun s => match evO s.env (.tmp 7) with | .int _ i => l.length - i.toNat | _ => 0) ?_ ?_ ?_)
    · rintro ⟨env, H⟩ ⟨i, n, hi, hn, hlt, h4, h5, h2, h3, h6, h7⟩ _
      by_cases hil : i < l.length
      · have hz : (i : Int) < (l.length : Int) := by omega
        have hg : l[i]? = some l[i] := List.getElem?_eq_getElem hil
        by_cases hd : 48 ≤ l[i].toNat ∧ l[i].toNat ≤ 57
        · have hdv : Lib.digitVal l[i] = some (l[i].toNat - 48) := by simp [Lib.digitVal, hd]
          have hstep := Lib.decFrom_take l i 0 n l[i] _ hn hg hdv
          have h10 : n < 10000000000000000000 := Nat.lt_of_lt_of_le hlt (Nat.le_trans (Nat.pow_le_pow_right (by omega) (show i ≤ 19 by omega)) (by decide))
          have e1 : ¬ ((l[i].toNat : Int) < 48) := by omega
          have e2 : ¬ ((57 : Int) < (l[i].toNat : Int)) := by omega
          have e3 : IntKind.u64.wrap (IntKind.u64.wrap (10 * (n : Int)) + IntKind.u64.wrap (IntKind.u8.wrap ((l[i].toNat : Int) - 48))) = ((n * 10 + (l[i].toNat - 48) : Nat) : Int) := by
            simp only [IntKind.wrap_u64, IntKind.wrap_u8]
            rcases Nat.lt_or_ge n 1844674407370955160 with h | h
            · omega
            · exfalso
              have : n < 10 ^ i := hlt
              have h18 : i ≤ 18 := by omega
              have : (10:Nat) ^ i ≤ 10 ^ 18 := Nat.pow_le_pow_right (by omega) h18
              omega
          have e4 : IntKind.i64.wrap ((i : Int) + 1) = ((i + 1 : Nat) : Int) := by
            simp only [IntKind.wrap_i64]; omega
          have e5 : n * 10 + (l[i].toNat - 48) < 10 ^ (i + 1) := by rw [Nat.pow_succ]; omega
          have e6 : l.length - (i + 1) < l.length - i := by omega
          simp [h4, h5, h2, h3, h6, h7, hz, hg, hil, e1, e2, e3, e4, e6]
          exact ⟨i + 1, by omega, _, by simpa using hstep, e5, by simp, by simp⟩
        · have hn1 : Lib.decFrom 0 l = none := by
            rcases h : Lib.decFrom 0 l with _ | m
            · rfl
            · obtain ⟨x, hx⟩ := Lib.digit_of_decFrom l 0 m h i _ hg
              simp [Lib.digitVal, hd] at hx
          have hr : refNumD neg l = none := by unfold refNumD; rw [if_neg hc, hn1]
          rcases Nat.lt_or_ge l[i].toNat 48 with hlo | hhi
          · have e1 : ((l[i].toNat : Int) < 48) := by omega
            simp [h4, h5, h2, h3, h6, h7, hz, hg, hil, e1, hr, optT, L7]
          · have e1 : ¬ ((l[i].toNat : Int) < 48) := by omega
            have e2 : ((57 : Int) < (l[i].toNat : Int)) := by omega
            simp [h4, h5, h2, h3, h6, h7, hz, hg, hil, e1, e2, hr, optT, L7]
      · have hz : ¬ (i : Int) < (l.length : Int) := by omega
        have hie : i = l.length := by omega
        subst hie
        simp [h4, h5, h2, h3, h6, h7]
        exact ⟨n, rfl, by simpa using hn⟩
    · exact ⟨0, 0, by omega, by simp [Lib.decFrom], by simp, h4, h5, h2, h3, by simpa using h6, by simpa using h7⟩
    · simp [h7]; omega
  intro env H ⟨h4, h5, h2, h3, n, h6, hn⟩
  have hr : refNumD neg l = if 9223372036854775808 < n ∨ (n = 9223372036854775808 ∧ neg = false) then none else some (if neg then -(n : Int) else n) := by
    unfold refNumD; rw [if_neg hc, hn]
  by_cases g1 : 9223372036854775808 < n
  · have e1 : (9223372036854775808 : Int) < n := by omega
    simp [h4, h5, h2, h3, h6, e1, hr, g1, optT, L7]
  · have e1 : ¬ (9223372036854775808 : Int) < n := by omega
    by_cases g2 : n = 9223372036854775808
    · subst g2
      have e3 : IntKind.i64.wrap (IntKind.u64.wrap (0 - 9223372036854775808)) = -9223372036854775808 := by decide
      cases neg <;> simp [h4, h5, h2, h3, h6, hr, optT, L7]
      exact e3
    · have e2 : ¬ (n : Int) = 9223372036854775808 := by omega
      have e3 : IntKind.i64.wrap (IntKind.u64.wrap (0 - (n : Int))) = -(n : Int) := by simp only [IntKind.wrap_i64, IntKind.wrap_u64]; omega
      have e4 : IntKind.i64.wrap (n : Int) = n := by simp only [IntKind.wrap_i64]; omega
      cases neg <;> simp [h4, h5, h2, h3, h6, e1, e2, hr, g1, g2, optT, L7, e4]
      simpa using e3

theorem refnum_run (k d fl : Nat) (l : List UInt8) (H : Heap) (hk : 30 ≤ k) (hl : l.length ≤ 300) : T k (d + 1) 7 fl [strV l] H = some (optT (refNum l), H) := by
  refine T_scalar (F := L7) rfl rfl (by simp [L7]) (optT_sc _) ?_
  refine lwp_mid (fun s => evO s.env (.tmp 0) = strV l ∧ evO s.env (.tmp 2) = .int .i64 0 ∧ evO s.env (.tmp 3) = .bool false) ?_ ?_
  · simp
  intro env H' ⟨h0, h2, h3⟩
  refine lwp_mid (fun s => evO s.env (.tmp 4) = strV l ∧ evO s.env (.tmp 2) = .int .i64 0 ∧ evO s.env (.tmp 3) = .bool false) ?_ ?_
  · simp [h0, h2, h3]
  intro env H' ⟨h4, h2, h3⟩
  refine lwp_mid (fun s => evO s.env (.tmp 4) = strV l ∧ evO s.env (.tmp 2) = .int .i64 0 ∧ evO s.env (.tmp 3) = .bool false ∧ evO s.env (.tmp 5) = .bool false) ?_ ?_
  · simp [h4, h2, h3]
  intro env H' ⟨h4, h2, h3, h5⟩
  refine lwp_mid (fun s => evO s.env (.tmp 2) = .int .i64 0 ∧ evO s.env (.tmp 3) = .bool false ∧ ∃ neg r, refNum l = refNumD neg r ∧ r.length ≤ 300 ∧ evO s.env (.tmp 4) = strV r ∧ evO s.env (.tmp 5) = .bool neg) ?_ ?_
  · cases l with
    | nil =>
      simp [h4, h5, h2, h3]
      rfl
    | cons b r =>
      have e0 : (0 : Int) < (r.length : Int) + 1 := by omega
      by_cases hb : b = 45
      · subst hb
        have e := slcTV_drop1 (45 :: r) .i64 (by simp)
        simp [h4, h5, h2, h3, e0, e]
        exact ⟨rfl, by simp at hl; omega⟩
      · have eb : ¬ (b.toNat : Int) = 45 := fun h => hb (UInt8.toNat_inj.1 (by simpa using Int.ofNat.inj h))
        simp [h4, h5, h2, h3, e0, eb]
        refine ⟨?_, by simp at hl; omega⟩
        unfold refNum
        split
        · rename_i d hd; simp at hd; exact absurd hd.1 hb
        · rfl
  intro env H' ⟨h2, h3, neg, r, e, hr, h4, h5⟩
  rw [e]
  exact refnum_rest k d H.length neg r env H' hk hr h4 h5 h2 h3

theorem parse_row (k d fl : Nat) (l : List UInt8) (H : Heap) (hs : l.length ≤ 281474976710656) :
    T k d 13 fl [strV l, .int .i64 10, .int .i64 64] H = match Lib.parseIntB 64 l with
      | .ok v => some (.tuple #[.int .i64 v, .nilIface], H)
      | .range => some (.tuple #[.int .i64 (Lib.intSat 64 l), .iface 69 (.pointer (some ⟨H.length, 0, some 0⟩))], H ++ [emptyBox])
      | _ => some (.tuple #[.int .i64 0, .iface 69 (.pointer (some ⟨H.length, 0, some 0⟩))], H ++ [emptyBox]) := by
  have : base 13 = rParse 69 := rfl
  cases h : Lib.parseIntB 64 l <;> exact tab_base (by rw [this]; simp [rParse, hs, h])

theorem fmt_row (k d fl : Nat) (n : Int) (H : Heap) (h0 : -9223372036854775808 ≤ n ∧ n ≤ 9223372036854775807) :
    T k d 14 fl [.int .i64 n, .int .i64 10] H = some (strV (Lib.itoa n), H) := by
  have : base 14 = scRow gFmt := rfl
  exact tab_base (by rw [this]; simp [scRow, gFmt, h0, isSc, isSc0])

theorem num_run (k d fl : Nat) (l : List UInt8) (H : Heap) (hs : l.length ≤ 281474976710656) :
    T k (d + 1) 6 fl [strV l] H = some (optT (num l), H) := by
  refine T_scalar (F := L6) rfl rfl (by simp [L6]) (optT_sc _) ?_
  have hp := fun fl H => parse_row k d fl l H hs
  unfold num
  cases h : Lib.parseIntB 64 l with
  | ok v =>
    have hf := fun fl H => fmt_row k d fl v H (parse_bounds h)
    by_cases he : Lib.itoa v = l <;> simp [L6, hp, h, hf, he, optT]
  | _ => simp [L6, hp, h, optT]
end Go.Proofs.YtcaogimdpcaohaaDoor.V

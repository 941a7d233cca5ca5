/- Arguments of plain data, opened by their types' shape. -/
import Derived.Test.YtcaogimdpcaohaaGreatDoorLvF
import Derived.ChangeArms
import Derived.OpenShut
import Derived.Carry
import Derived.Lib.ParseIntB
import Derived.Lib.ItoaNum
import Derived.Lib.ItoaMem
import Derived.Lib.Atoi
import Derived.Lib.ItoaLen
set_option linter.unusedVariables false
set_option linter.unusedSimpArgs false
set_option linter.constructorNameAsVariable false

set_option linter.unusedVariables false
set_option linter.constructorNameAsVariable false
namespace Go.Lev
open Go

inductive Sh where
  | b
  | i (k : IntKind)
  | f (k : FloatKind)
  | s

def okSh : Sh → Value → Prop
  | .b, v => ∃ x, v = .bool x
  | .i k, v => ∃ n, v = .int k n ∧ (Lit.int k n).wf = true
  | .f k, v => ∃ n, v = .float k n ∧ (Lit.float k n).wf = true
  | .s, v => ∃ x : ByteArray, v = .string x ∧ x.size ≤ maxLen

def okShs : List Sh → List Value → Prop
  | [], [] => True
  | s :: ss, v :: vs => okSh s v ∧ okShs ss vs
  | _, _ => False

def shFields (P : Program) (sub : TypeId → Option (List Sh)) : Nat → List Field → Option (List Sh)
  | _, [] => some []
  | off, f :: fs => if f.offset = off then match sub f.type with
      | some s => if s.length = P.cellsOf f.type then (shFields P sub (off + s.length) fs).map (s ++ ·) else none
      | none => none
    else none

def shapeT (P : Program) : Nat → TypeId → Option (List Sh)
  | 0, _ => none
  | n + 1, t => match P.underlying t with
    | some .bool => some [.b]
    | some (.int k) => some [.i k]
    | some (.float k) => some [.f k]
    | some .string => some [.s]
    | some (.struct fs) => match shFields P (shapeT P n) 0 fs.toList with
      | some S => if S.length = P.cellsOf t then some S else none
      | none => none
    | some (.array m e) => match shapeT P n e with
      | some s => if s.length = P.cellsOf e ∧ m * P.cellsOf e = P.cellsOf t then some (List.replicate m s).flatten else none
      | none => none
    | _ => none

theorem okShs_len : ∀ {S : List Sh} {cs : List Value}, okShs S cs → cs.length = S.length
  | [], [], _ => rfl
  | [], _ :: _, h => absurd h id
  | _ :: _, [], h => absurd h id
  | _ :: S, _ :: cs, h => by simp [okShs_len h.2]
theorem okShs_append : ∀ {a b : List Sh} {x : List Value}, okShs a (x.take a.length) → okShs b (x.drop a.length) → okShs (a ++ b) x
  | [], b, x, _, h2 => by simpa using h2
  | s :: a, b, [], h1, _ => absurd h1 id
  | s :: a, b, v :: x, h1, h2 => ⟨h1.1, okShs_append h1.2 (by simpa using h2)⟩

section
variable {H : Type} {enc : TypeId × Value → H} {P : Program} {w : World} {base : Nat} {spare : Nat → Bool} {held : Bool}

theorem fields_shape {sub : TypeId → Option (List Sh)} {n : Nat} (ih : ∀ t S, sub t = some S → ∀ cs x, DataW.trod enc P w base spare held n t cs = some x → okShs S cs ∧ x.2 = []) :
    ∀ (fs : List Field) (off : Nat) (S : List Sh) (cs : List Value) (xs : List (DataW H × List MemPlace)), shFields P sub off fs = some S → cs.length = off + S.length → xs.length = fs.length →
    (∀ (i : Nat) (f : Field), fs[i]? = some f → DataW.trod enc P w base spare held n f.type ((cs.drop f.offset).take (P.cellsOf f.type)) = xs[i]?) → okShs S (cs.drop off) ∧ xs.flatMap (·.2) = []
  | [], off, S, cs, xs, hS, hl, hx, _ => by
    simp only [shFields, Option.some.injEq] at hS
    subst hS
    have : xs = [] := List.length_eq_zero_iff.1 hx
    subst this
    have h2 : cs.drop off = [] := List.drop_eq_nil_of_le (by simp at hl; omega)
    rw [h2]
    exact ⟨trivial, rfl⟩
  | f :: fs, off, S, cs, [], hS, hl, hx, hf => by simp at hx
  | f :: fs, off, S, cs, x :: xs, hS, hl, hx, hf => by
    simp only [shFields] at hS
    split at hS
    · rename_i ho
      split at hS
      · rename_i s hs
        split at hS
        · rename_i hsl
          obtain ⟨S', hS', rfl⟩ := Option.map_eq_some_iff.1 hS
          have h0 := hf 0 f rfl
          simp only [List.getElem?_cons_zero] at h0
          obtain ⟨a1, a2⟩ := ih _ _ hs _ _ h0
          obtain ⟨b1, b2⟩ := fields_shape ih fs (off + s.length) S' cs xs hS' (by simp at hl; omega) (by simpa using hx) fun i g hg => by simpa using hf (i + 1) g (by simpa using hg)
          refine ⟨okShs_append ?_ ?_, ?_⟩
          · rw [ho, ← hsl] at a1
            exact a1
          · rw [List.drop_drop]
            exact b1
          · simp [a2, b2]
        · simp at hS
      · simp at hS
    · simp at hS

theorem elems_shape {n k : Nat} {e : TypeId} {s : List Sh} (hs : s.length = k) (ih : ∀ cs x, DataW.trod enc P w base spare held n e cs = some x → okShs s cs ∧ x.2 = []) :
    ∀ (m : Nat) (cs : List Value) (xs : List (DataW H × List MemPlace)), cs.length = m * k → xs.length = m →
    (∀ i, i < m → DataW.trod enc P w base spare held n e ((cs.drop (i * k)).take k) = xs[i]?) → okShs (List.replicate m s).flatten cs ∧ xs.flatMap (·.2) = []
  | 0, cs, xs, hl, hx, _ => by
    have : xs = [] := List.length_eq_zero_iff.1 hx
    subst this
    have : cs = [] := List.length_eq_zero_iff.1 (by simpa using hl)
    subst this
    exact ⟨trivial, rfl⟩
  | m + 1, cs, [], hl, hx, _ => by simp at hx
  | m + 1, cs, x :: xs, hl, hx, hf => by
    have h0 := hf 0 (by omega)
    simp only [Nat.zero_mul, List.drop_zero, List.getElem?_cons_zero] at h0
    obtain ⟨a1, a2⟩ := ih _ _ h0
    obtain ⟨b1, b2⟩ := elems_shape hs ih m (cs.drop k) xs (by rw [List.length_drop, hl, Nat.add_mul]; omega) (by simpa using hx) fun i hi => by
      have := hf (i + 1) (by omega)
      rw [List.drop_drop]
      simpa [Nat.add_mul, Nat.add_comm] using this
    rw [List.replicate_succ, List.flatten_cons]
    refine ⟨okShs_append (by rw [hs]; exact a1) (by rw [hs]; exact b1), by simp [a2, b2]⟩

theorem trod_shape : ∀ (n : Nat) (t : TypeId) (S : List Sh), shapeT P n t = some S → ∀ (fuel : Nat) (cs : List Value) (x : DataW H × List MemPlace), DataW.trod enc P w base spare held fuel t cs = some x → okShs S cs ∧ x.2 = []
  | 0, t, S, h, _, _, _, _ => by simp [shapeT] at h
  | n + 1, t, S, h, fuel, cs, x, hx => by
    simp only [shapeT] at h
    split at h
    · rename_i ht
      obtain rfl := Option.some.inj h
      obtain ⟨b, rfl, rfl⟩ := DataW.trod_bool ht hx
      exact ⟨⟨⟨b, rfl⟩, trivial⟩, rfl⟩
    · rename_i k ht
      obtain rfl := Option.some.inj h
      obtain ⟨m, rfl, rfl, hw⟩ := DataW.trod_int ht hx
      exact ⟨⟨⟨m, rfl, hw⟩, trivial⟩, rfl⟩
    · rename_i k ht
      obtain rfl := Option.some.inj h
      cases fuel with
      | zero => simp [DataW.trod] at hx
      | succ m =>
        unfold DataW.trod at hx
        rw [ht] at hx
        split at hx <;> simp_all
        obtain ⟨⟨rfl, hw⟩, rfl⟩ := hx
        exact ⟨⟨⟨_, rfl, hw⟩, trivial⟩, rfl⟩
    · rename_i ht
      obtain rfl := Option.some.inj h
      obtain ⟨m, rfl, rfl, hw⟩ := DataW.trod_string ht hx
      exact ⟨⟨⟨m, rfl, hw⟩, trivial⟩, rfl⟩
    · rename_i fs ht
      split at h
      · rename_i S' hS'
        split at h
        · rename_i hl
          obtain rfl := Option.some.inj h
          obtain ⟨xs, m, rfl, rfl, h1, h2, h3⟩ := DataW.trod_struct ht hx
          obtain ⟨a, b⟩ := fields_shape (n := m) (fun t S hS cs x hx => trod_shape n t S hS m cs x hx) fs.toList 0 S' cs xs hS' (by rw [h1, hl]; omega) (by simpa using h2) fun i f hf => h3 i f (by simpa using hf)
          exact ⟨by simpa using a, b⟩
        · simp at h
      · simp at h
    · rename_i m e ht
      split at h
      · rename_i s hs
        split at h
        · rename_i hl
          obtain rfl := Option.some.inj h
          obtain ⟨xs, k, rfl, rfl, h1, h2, h3⟩ := DataW.trod_array ht hx
          obtain ⟨a, b⟩ := elems_shape (n := k) hl.1 (fun cs x hx => trod_shape n e s hs k cs x hx) m cs xs (by rw [h1, hl.2]) h2 h3
          exact ⟨a, b⟩
        · simp at h
      · simp at h
    · simp at h
end

theorem okShs_cons {s : Sh} {S : List Sh} {l : List Value} (h : okShs (s :: S) l) : ∃ v l', l = v :: l' ∧ okSh s v ∧ okShs S l' := by
  cases l with
  | nil => exact absurd h id
  | cons v l => exact ⟨v, l, rfl, h.1, h.2⟩
theorem okShs_nil {l : List Value} (h : okShs [] l) : l = [] := by
  cases l with
  | nil => rfl
  | cons v l => exact absurd h id
theorem okI64 {v : Value} (h : okSh (.i .i64) v) : ∃ n, v = .int .i64 n ∧ -9223372036854775808 ≤ n ∧ n ≤ 9223372036854775807 := by
  obtain ⟨n, rfl, hw⟩ := h
  exact ⟨n, rfl, (bounds_i64 hw).1, (bounds_i64 hw).2⟩
theorem okU64 {v : Value} (h : okSh (.i .u64) v) : ∃ n, v = .int .u64 n ∧ 0 ≤ n ∧ n ≤ 18446744073709551615 := by
  obtain ⟨n, rfl, hw⟩ := h
  exact ⟨n, rfl, (bounds_u64 hw).1, (bounds_u64 hw).2⟩
theorem okU8 {v : Value} (h : okSh (.i .u8) v) : ∃ n, v = .int .u8 n ∧ 0 ≤ n ∧ n ≤ 255 := by
  obtain ⟨n, rfl, hw⟩ := h
  exact ⟨n, rfl, (bounds_u8 hw).1, (bounds_u8 hw).2⟩
/-- An instruction's cells. -/
theorem okInst {l : List Value} (h : okShs [.i .i64, .i .i64, .i .i64, .i .i64, .i .i64, .b, .b, .i .i64, .i .i64] l) : ∃ (op rd r1 r2 imm : Int) (aq rl : Bool) (p s : Int),
    l = [.int .i64 op, .int .i64 rd, .int .i64 r1, .int .i64 r2, .int .i64 imm, .bool aq, .bool rl, .int .i64 p, .int .i64 s] ∧ (-9223372036854775808 ≤ op ∧ op ≤ 9223372036854775807) ∧ (-9223372036854775808 ≤ rd ∧ rd ≤ 9223372036854775807) ∧ (-9223372036854775808 ≤ r1 ∧ r1 ≤ 9223372036854775807) ∧ (-9223372036854775808 ≤ r2 ∧ r2 ≤ 9223372036854775807) ∧ (-9223372036854775808 ≤ imm ∧ imm ≤ 9223372036854775807) ∧ (-9223372036854775808 ≤ p ∧ p ≤ 9223372036854775807) ∧ (-9223372036854775808 ≤ s ∧ s ≤ 9223372036854775807) := by
  obtain ⟨c0, l0, rfl, k0, h⟩ := okShs_cons h
  obtain ⟨c1, l1, rfl, k1, h⟩ := okShs_cons h
  obtain ⟨c2, l2, rfl, k2, h⟩ := okShs_cons h
  obtain ⟨c3, l3, rfl, k3, h⟩ := okShs_cons h
  obtain ⟨c4, l4, rfl, k4, h⟩ := okShs_cons h
  obtain ⟨c5, l5, rfl, k5, h⟩ := okShs_cons h
  obtain ⟨c6, l6, rfl, k6, h⟩ := okShs_cons h
  obtain ⟨c7, l7, rfl, k7, h⟩ := okShs_cons h
  obtain ⟨c8, l8, rfl, k8, h⟩ := okShs_cons h
  obtain rfl := okShs_nil h
  obtain ⟨n0, rfl, b0⟩ := okI64 k0
  obtain ⟨n1, rfl, b1⟩ := okI64 k1
  obtain ⟨n2, rfl, b2⟩ := okI64 k2
  obtain ⟨n3, rfl, b3⟩ := okI64 k3
  obtain ⟨n4, rfl, b4⟩ := okI64 k4
  obtain ⟨n5, rfl⟩ := k5
  obtain ⟨n6, rfl⟩ := k6
  obtain ⟨n7, rfl, b7⟩ := okI64 k7
  obtain ⟨n8, rfl, b8⟩ := okI64 k8
  exact ⟨n0, n1, n2, n3, n4, n5, n6, n7, n8, rfl, b0, b1, b2, b3, b4, b7, b8⟩
theorem okSh_sc0 {s : Sh} {v : Value} (h : okSh s v) : isSc0 v = true := by
  cases s <;> simp only [okSh] at h
  · obtain ⟨x, rfl⟩ := h; rfl
  · obtain ⟨x, rfl, _⟩ := h; rfl
  · obtain ⟨x, rfl, _⟩ := h; rfl
  · obtain ⟨x, rfl, _⟩ := h; rfl
theorem okShs_sc0 : ∀ {S : List Sh} {cs : List Value}, okShs S cs → cs.all isSc0 = true
  | [], [], _ => rfl
  | [], _ :: _, h => absurd h id
  | _ :: _, [], h => absurd h id
  | _ :: S, _ :: cs, h => by simp only [List.all_cons, Bool.and_eq_true]; exact ⟨okSh_sc0 h.1, okShs_sc0 h.2⟩
end Go.Lev


set_option linter.unusedVariables false
set_option linter.unusedSimpArgs false
namespace Go.Lev
open Go.Lib

def num (l : List UInt8) : Option Int := match parseIntB 64 l with
  | .ok v => if itoa v = l then some v else none
  | _ => none

/-- The document's, off the sign. -/
def refNumD (neg : Bool) (d : List UInt8) : Option Int :=
  if d = [] ∨ 19 < d.length ∨ (d.head? = some 48 ∧ (1 < d.length ∨ neg = true)) then none
  else match decFrom 0 d with
    | none => none
    | some n => if 9223372036854775808 < n ∨ (n = 9223372036854775808 ∧ neg = false) then none else some (if neg then -(n : Int) else n)
def refNum (l : List UInt8) : Option Int := match l with
  | 45 :: d => refNumD true d
  | l => refNumD false l

theorem decFrom_app : ∀ (l m : List UInt8) (acc : Nat), decFrom acc (l ++ m) = (decFrom acc l).bind fun n => decFrom n m
  | [], m, acc => rfl
  | a :: l, m, acc => by
    simp only [List.cons_append, decFrom]
    cases digitVal a with
    | none => rfl
    | some d => exact decFrom_app l m _

theorem digit_of (u : Nat) (h : u < 10) : digitVal (UInt8.ofNat (48 + u)) = some u := by
  have : (UInt8.ofNat (48 + u)).toNat = 48 + u := by simp [UInt8.toNat_ofNat']; omega
  simp [digitVal, this]; omega

theorem of_digit {b : UInt8} {d : Nat} (h : digitVal b = some d) : b = UInt8.ofNat (48 + d) ∧ d < 10 := by
  obtain ⟨h1, h2, h3⟩ := digitVal_eq h
  refine ⟨?_, by omega⟩
  apply UInt8.toNat_inj.1
  simp [UInt8.toNat_ofNat']
  omega

theorem decDigits_small {u : Nat} (h : u < 10) : decDigits u = [UInt8.ofNat (48 + u)] := by rw [decDigits, dif_pos h]
theorem decDigits_big {u : Nat} (h : ¬ u < 10) : decDigits u = decDigits (u / 10) ++ [UInt8.ofNat (48 + u % 10)] := by rw [decDigits, dif_neg h]

theorem decFrom_ge : ∀ (l : List UInt8) (acc u : Nat), decFrom acc l = some u → acc ≤ u
  | [], acc, u, h => by simp [decFrom] at h; omega
  | a :: l, acc, u, h => by
    simp only [decFrom] at h
    cases ha : digitVal a with
    | none => simp [ha] at h
    | some d => simp only [ha] at h; have := decFrom_ge l _ _ h; omega

theorem decDigits_from (u : Nat) : decFrom 0 (decDigits u) = some u := by
  induction u using Nat.strongRecOn with
  | _ u ih =>
    by_cases h : u < 10
    · rw [decDigits_small h]; simp only [decFrom, digit_of u h]; congr 1; omega
    · rw [decDigits_big h, decFrom_app, ih (u / 10) (by omega)]
      simp only [Option.bind_some, decFrom, digit_of (u % 10) (by omega)]
      congr 1
      omega
theorem decDigits_ne (u : Nat) : decDigits u ≠ [] := by
  rw [decDigits]; split <;> simp
theorem decDigits_head (u : Nat) : ∀ b r, decDigits u = b :: r → b = 48 → u = 0 ∧ r = [] := by
  induction u using Nat.strongRecOn with
  | _ u ih =>
    intro b r h hb
    by_cases hu : u < 10
    · rw [decDigits_small hu] at h
      simp only [List.cons.injEq] at h
      obtain ⟨h1, h2⟩ := h
      refine ⟨?_, h2.symm⟩
      subst hb
      have := congrArg UInt8.toNat h1
      simp [UInt8.toNat_ofNat'] at this
      omega
    · rw [decDigits_big hu] at h
      cases hd : decDigits (u / 10) with
      | nil => exact absurd hd (decDigits_ne _)
      | cons c t =>
        rw [hd] at h
        simp only [List.cons_append, List.cons.injEq] at h
        obtain ⟨h1, _⟩ := ih (u / 10) (by omega) c t hd (h.1.trans hb)
        omega

theorem decDigits_of : ∀ (n : Nat) (l : List UInt8) (u : Nat), l.length = n → decFrom 0 l = some u → l ≠ [] → (∀ r, l = 48 :: r → r = []) → decDigits u = l := by
  intro n
  induction n with
  | zero => intro l u hl _ hne; exact absurd (List.length_eq_zero_iff.1 hl) hne
  | succ n ih =>
    intro l u hl hd hne hz
    obtain ⟨l', c, rfl⟩ : ∃ l' c, l = l' ++ [c] := ⟨l.dropLast, l.getLast hne, (List.dropLast_concat_getLast hne).symm⟩
    rw [decFrom_app] at hd
    cases hl' : decFrom 0 l' with
    | none => simp [hl'] at hd
    | some u' =>
      simp only [hl', Option.bind_some, decFrom] at hd
      cases hc : digitVal c with
      | none => simp [hc] at hd
      | some d =>
        simp only [hc, Option.some.injEq] at hd
        obtain ⟨rfl, hd10⟩ := of_digit hc
        by_cases he : l' = []
        · subst he
          simp [decFrom] at hl'
          subst hl'
          rw [decDigits_small (by omega)]
          simp at hd
          subst hd
          rfl
        · have hpos : 1 ≤ u' := by
            cases l' with
            | nil => exact absurd rfl he
            | cons a t =>
              simp only [decFrom] at hl'
              cases ha : digitVal a with
              | none => simp [ha] at hl'
              | some e =>
                simp only [ha] at hl'
                have h1 := decFrom_ge _ _ _ hl'
                obtain ⟨ha1, _⟩ := of_digit ha
                rcases Nat.eq_zero_or_pos e with h0 | h0
                · subst h0
                  have := hz (t ++ [UInt8.ofNat (48 + d)]) (by rw [ha1]; rfl)
                  simp at this
                · omega
          have h2 := ih l' u' (by simp at hl; omega) hl' he (fun r hr => by
            have := hz (r ++ [UInt8.ofNat (48 + d)]) (by rw [hr]; rfl)
            simp at this)
          rw [decDigits_big (by omega)]
          have e1 : u / 10 = u' := by omega
          have e2 : u % 10 = d := by omega
          rw [e1, e2, h2]

theorem parseUintM_of : ∀ (l : List UInt8) (M acc u : Nat), decFrom acc l = some u → u ≤ M → M ≤ 18446744073709551615 → parseUintM M acc l = .ok u
  | [], M, acc, u, h, _, _ => by simp [decFrom] at h; simp [parseUintM, h]
  | a :: l, M, acc, u, h, h1, h2 => by
    simp only [decFrom] at h
    cases ha : digitVal a with
    | none => simp [ha] at h
    | some d =>
      simp only [ha] at h
      obtain ⟨k1, k2, k3⟩ := digitVal_eq ha
      have h3 := decFrom_ge _ _ _ h
      rw [parseUintM, if_pos ⟨k1, k2⟩, if_neg (by omega), if_neg (by omega)]
      rw [← k3]
      exact parseUintM_of l M _ u h h1 h2

theorem parse_itoa (v : Int) (h0 : -9223372036854775808 ≤ v) (h1 : v ≤ 9223372036854775807) : parseIntB 64 (itoa v) = .ok v := by
  by_cases hv : v < 0
  · obtain ⟨u, rfl⟩ : ∃ u : Nat, v = -(u : Int) := ⟨v.natAbs, by omega⟩
    have hp : parseUintB 64 (decDigits u) = .ok u := by
      unfold parseUintB
      rw [if_neg (decDigits_ne u)]
      exact parseUintM_of _ _ _ _ (decDigits_from u) (by omega) (by omega)
    rw [itoa_neg u (by omega)]
    simp [parseIntB, hp]
    omega
  · obtain ⟨u, rfl⟩ : ∃ u : Nat, v = (u : Int) := ⟨v.natAbs, by omega⟩
    have hp : parseUintB 64 (decDigits u) = .ok u := by
      unfold parseUintB
      rw [if_neg (decDigits_ne u)]
      exact parseUintM_of _ _ _ _ (decDigits_from u) (by omega) (by omega)
    rw [itoa_nonneg u]
    cases hd : decDigits u with
    | nil => exact absurd hd (decDigits_ne u)
    | cons c r =>
      have hc : ∃ d, digitVal c = some d := digit_of_decFrom _ _ _ (decDigits_from u) 0 c (by rw [hd]; rfl)
      obtain ⟨d, hc⟩ := hc
      obtain ⟨k1, k2, _⟩ := digitVal_eq hc
      have e1 : ¬ c.toNat = 43 := by omega
      have e2 : ¬ c.toNat = 45 := by omega
      rw [hd] at hp
      simp [parseIntB, hp, e1, e2]
      omega

theorem parse_bounds {l : List UInt8} {v : Int} (h : parseIntB 64 l = .ok v) : -9223372036854775808 ≤ v ∧ v ≤ 9223372036854775807 := by
  cases l with
  | nil => simp [parseIntB] at h
  | cons c r =>
    simp only [parseIntB] at h
    split at h
    · simp at h
    · simp at h
    · split at h
      · simp at h
      · split at h
        · simp at h
        · rename_i h1 h2
          simp only [NumEnd.ok.injEq] at h
          subst h
          by_cases hc : c.toNat = 45 <;> simp [hc] at h1 h2 ⊢ <;> omega

theorem num_iff (l : List UInt8) (v : Int) : num l = some v ↔ (itoa v = l ∧ -9223372036854775808 ≤ v ∧ v ≤ 9223372036854775807) := by
  constructor
  · intro h
    unfold num at h
    split at h
    · rename_i x hx
      split at h
      · rename_i he
        obtain rfl := Option.some.inj h
        exact ⟨he, parse_bounds hx⟩
      · simp at h
    · simp at h
  · rintro ⟨rfl, h0, h1⟩
    unfold num
    rw [parse_itoa v h0 h1]
    simp

theorem num_itoa (v : Int) (h0 : -9223372036854775808 ≤ v) (h1 : v ≤ 9223372036854775807) : num (itoa v) = some v := (num_iff _ _).2 ⟨rfl, h0, h1⟩

theorem decDigits_len (u : Nat) (h : u < 10 ^ 19) : (decDigits u).length ≤ 19 := by
  have : ∀ (n u : Nat), u < 10 ^ n → 1 ≤ n → (decDigits u).length ≤ n := by
    intro n
    induction n with
    | zero => intro u h h1; omega
    | succ n ih =>
      intro u h _
      by_cases hu : u < 10
      · rw [decDigits_small hu]; simp
      · rw [decDigits_big hu]
        have hn : 1 ≤ n := by
          rcases Nat.eq_zero_or_pos n with h0 | h0
          · subst h0; omega
          · exact h0
        have := ih (u / 10) (by rw [Nat.pow_succ] at h; omega) hn
        simp
        omega
  exact this 19 u h (by omega)

theorem refNumD_iff (neg : Bool) (d : List UInt8) (v : Int) : refNumD neg d = some v ↔ ∃ u : Nat, decDigits u = d ∧ (neg = true → 1 ≤ u ∧ u ≤ 9223372036854775808 ∧ v = -(u : Int)) ∧ (neg = false → u ≤ 9223372036854775807 ∧ v = u) := by
  constructor
  · intro h
    unfold refNumD at h
    split at h
    · simp at h
    · rename_i hc
      split at h
      · simp at h
      · rename_i n hn
        split at h
        · simp at h
        · rename_i h2
          have hd : decDigits n = d := decDigits_of _ d n rfl hn (fun e => hc (.inl e)) (fun r e => by
            subst e
            rcases Nat.eq_zero_or_pos r.length with h0 | h0
            · exact List.length_eq_zero_iff.1 h0
            · exact absurd (.inr (.inr ⟨rfl, .inl (by simp; omega)⟩)) hc)
          refine ⟨n, hd, fun hneg => ?_, fun hneg => ?_⟩
          · subst hneg
            simp at h h2
            refine ⟨?_, h2, h.symm⟩
            rcases Nat.eq_zero_or_pos n with h0 | h0
            · subst h0
              exact absurd (.inr (.inr ⟨by rw [← hd, decDigits_small (by omega)]; rfl, .inr rfl⟩)) hc
            · exact h0
          · subst hneg
            simp at h h2
            exact ⟨by omega, h.symm⟩
  · rintro ⟨u, rfl, h1, h2⟩
    unfold refNumD
    have hu : u ≤ 9223372036854775808 := by cases neg with
      | true => exact (h1 rfl).2.1
      | false => have := (h2 rfl).1; omega
    have hlen := decDigits_len u (by omega)
    rw [if_neg, decDigits_from]
    · cases neg with
      | true => have := h1 rfl; simp; omega
      | false => have := h2 rfl; simp; omega
    · rintro (h | h | ⟨h, h3⟩)
      · exact decDigits_ne u h
      · omega
      · cases hd : decDigits u with
        | nil => exact decDigits_ne u hd
        | cons b r =>
          rw [hd] at h h3
          simp only [List.head?_cons, Option.some.injEq] at h
          obtain ⟨h4, h5⟩ := decDigits_head u b r hd h
          subst h5
          rcases h3 with h3 | h3
          · simp at h3
          · have := (h1 h3).1; omega

theorem refNum_num (l : List UInt8) : refNum l = num l := by
  apply Option.ext
  intro v
  rw [num_iff]
  have pos : ∀ (l : List UInt8), (∀ d, l ≠ 45 :: d) → ((∃ u : Nat, decDigits u = l ∧ u ≤ 9223372036854775807 ∧ v = u) ↔ (itoa v = l ∧ -9223372036854775808 ≤ v ∧ v ≤ 9223372036854775807)) := by
    intro l hl
    constructor
    · rintro ⟨u, rfl, h1, rfl⟩
      exact ⟨itoa_nonneg u, by omega, by omega⟩
    · rintro ⟨h1, h2, h3⟩
      by_cases hv : v < 0
      · have : itoa v = 45 :: decDigits v.natAbs := by unfold itoa; rw [if_pos hv]
        rw [this] at h1
        exact absurd h1.symm (hl _)
      · obtain ⟨u, rfl⟩ : ∃ u : Nat, v = (u : Int) := ⟨v.natAbs, by omega⟩
        exact ⟨u, by rw [← h1, itoa_nonneg], by omega, rfl⟩
  have plain : ∀ (l : List UInt8), (∀ d, l ≠ 45 :: d) → (refNumD false l = some v ↔ (itoa v = l ∧ -9223372036854775808 ≤ v ∧ v ≤ 9223372036854775807)) := by
    intro l hl
    rw [refNumD_iff, ← pos l hl]
    simp
  unfold refNum
  split
  · rename_i d
    rw [refNumD_iff]
    constructor
    · rintro ⟨u, rfl, h1, _⟩
      obtain ⟨h2, h3, rfl⟩ := h1 rfl
      exact ⟨itoa_neg u h2, by omega, by omega⟩
    · rintro ⟨h1, h2, h3⟩
      by_cases hv : v < 0
      · obtain ⟨u, rfl⟩ : ∃ u : Nat, v = -(u : Int) := ⟨v.natAbs, by omega⟩
        rw [itoa_neg u (by omega)] at h1
        simp at h1
        exact ⟨u, h1, fun _ => ⟨by omega, by omega, rfl⟩, fun h => by simp at h⟩
      · obtain ⟨u, rfl⟩ : ∃ u : Nat, v = (u : Int) := ⟨v.natAbs, by omega⟩
        rw [itoa_nonneg] at h1
        have hc : ∃ e, digitVal 45 = some e := digit_of_decFrom _ _ _ (decDigits_from u) 0 45 (by rw [h1]; rfl)
        simp [digitVal] at hc
  · rename_i hl
    exact plain l (fun d e => hl d e)

end Go.Lev

/- Arguments of plain data, opened by their types' shape. -/
import Derived.Test.YtffclchaoifleaaGreatDoorLvF
import Derived.ChangeArms
import Derived.OpenShut
import Derived.Carry
set_option linter.unusedVariables false
set_option linter.unusedSimpArgs false
set_option linter.constructorNameAsVariable false

set_option linter.unusedVariables false
set_option linter.constructorNameAsVariable false
namespace Go.Lev
open Go

inductive Sh where
  | b
  | i (k : IntKind)
  | f (k : FloatKind)
  | s

def okSh : Sh → Value → Prop
  | .b, v => ∃ x, v = .bool x
  | .i k, v => ∃ n, v = .int k n ∧ (Lit.int k n).wf = true
  | .f k, v => ∃ n, v = .float k n ∧ (Lit.float k n).wf = true
  | .s, v => ∃ x : ByteArray, v = .string x ∧ x.size ≤ maxLen

def okShs : List Sh → List Value → Prop
  | [], [] => True
  | s :: ss, v :: vs => okSh s v ∧ okShs ss vs
  | _, _ => False

def shFields (P : Program) (sub : TypeId → Option (List Sh)) : Nat → List Field → Option (List Sh)
  | _, [] => some []
  | off, f :: fs => if f.offset = off then match sub f.type with
      | some s => if s.length = P.cellsOf f.type then (shFields P sub (off + s.length) fs).map (s ++ ·) else none
      | none => none
    else none

def shapeT (P : Program) : Nat → TypeId → Option (List Sh)
  | 0, _ => none
  | n + 1, t => match P.underlying t with
    | some .bool => some [.b]
    | some (.int k) => some [.i k]
    | some (.float k) => some [.f k]
    | some .string => some [.s]
    | some (.struct fs) => match shFields P (shapeT P n) 0 fs.toList with
      | some S => if S.length = P.cellsOf t then some S else none
      | none => none
    | some (.array m e) => match shapeT P n e with
      | some s => if s.length = P.cellsOf e ∧ m * P.cellsOf e = P.cellsOf t then some (List.replicate m s).flatten else none
      | none => none
    | _ => none

theorem okShs_len : ∀ {S : List Sh} {cs : List Value}, okShs S cs → cs.length = S.length
  | [], [], _ => rfl
  | [], _ :: _, h => absurd h id
  | _ :: _, [], h => absurd h id
  | _ :: S, _ :: cs, h => by simp [okShs_len h.2]
theorem okShs_append : ∀ {a b : List Sh} {x : List Value}, okShs a (x.take a.length) → okShs b (x.drop a.length) → okShs (a ++ b) x
  | [], b, x, _, h2 => by simpa using h2
  | s :: a, b, [], h1, _ => absurd h1 id
  | s :: a, b, v :: x, h1, h2 => ⟨h1.1, okShs_append h1.2 (by simpa using h2)⟩

section
variable {H : Type} {enc : TypeId × Value → H} {P : Program} {w : World} {base : Nat} {spare : Nat → Bool} {held : Bool}

theorem fields_shape {sub : TypeId → Option (List Sh)} {n : Nat} (ih : ∀ t S, sub t = some S → ∀ cs x, DataW.trod enc P w base spare held n t cs = some x → okShs S cs ∧ x.2 = []) :
    ∀ (fs : List Field) (off : Nat) (S : List Sh) (cs : List Value) (xs : List (DataW H × List MemPlace)), shFields P sub off fs = some S → cs.length = off + S.length → xs.length = fs.length →
    (∀ (i : Nat) (f : Field), fs[i]? = some f → DataW.trod enc P w base spare held n f.type ((cs.drop f.offset).take (P.cellsOf f.type)) = xs[i]?) → okShs S (cs.drop off) ∧ xs.flatMap (·.2) = []
  | [], off, S, cs, xs, hS, hl, hx, _ => by
    simp only [shFields, Option.some.injEq] at hS
    subst hS
    have : xs = [] := List.length_eq_zero_iff.1 hx
    subst this
    have h2 : cs.drop off = [] := List.drop_eq_nil_of_le (by simp at hl; omega)
    rw [h2]
    exact ⟨trivial, rfl⟩
  | f :: fs, off, S, cs, [], hS, hl, hx, hf => by simp at hx
  | f :: fs, off, S, cs, x :: xs, hS, hl, hx, hf => by
    simp only [shFields] at hS
    split at hS
    · rename_i ho
      split at hS
      · rename_i s hs
        split at hS
        · rename_i hsl
          obtain ⟨S', hS', rfl⟩ := Option.map_eq_some_iff.1 hS
          have h0 := hf 0 f rfl
          simp only [List.getElem?_cons_zero] at h0
          obtain ⟨a1, a2⟩ := ih _ _ hs _ _ h0
          obtain ⟨b1, b2⟩ := fields_shape ih fs (off + s.length) S' cs xs hS' (by simp at hl; omega) (by simpa using hx) fun i g hg => by simpa using hf (i + 1) g (by simpa using hg)
          refine ⟨okShs_append ?_ ?_, ?_⟩
          · rw [ho, ← hsl] at a1
            exact a1
          · rw [List.drop_drop]
            exact b1
          · simp [a2, b2]
        · simp at hS
      · simp at hS
    · simp at hS

theorem elems_shape {n k : Nat} {e : TypeId} {s : List Sh} (hs : s.length = k) (ih : ∀ cs x, DataW.trod enc P w base spare held n e cs = some x → okShs s cs ∧ x.2 = []) :
    ∀ (m : Nat) (cs : List Value) (xs : List (DataW H × List MemPlace)), cs.length = m * k → xs.length = m →
    (∀ i, i < m → DataW.trod enc P w base spare held n e ((cs.drop (i * k)).take k) = xs[i]?) → okShs (List.replicate m s).flatten cs ∧ xs.flatMap (·.2) = []
  | 0, cs, xs, hl, hx, _ => by
    have : xs = [] := List.length_eq_zero_iff.1 hx
    subst this
    have : cs = [] := List.length_eq_zero_iff.1 (by simpa using hl)
    subst this
    exact ⟨trivial, rfl⟩
  | m + 1, cs, [], hl, hx, _ => by simp at hx
  | m + 1, cs, x :: xs, hl, hx, hf => by
    have h0 := hf 0 (by omega)
    simp only [Nat.zero_mul, List.drop_zero, List.getElem?_cons_zero] at h0
    obtain ⟨a1, a2⟩ := ih _ _ h0
    obtain ⟨b1, b2⟩ := elems_shape hs ih m (cs.drop k) xs (by rw [List.length_drop, hl, Nat.add_mul]; omega) (by simpa using hx) fun i hi => by
      have := hf (i + 1) (by omega)
      rw [List.drop_drop]
      simpa [Nat.add_mul, Nat.add_comm] using this
    rw [List.replicate_succ, List.flatten_cons]
    refine ⟨okShs_append (by rw [hs]; exact a1) (by rw [hs]; exact b1), by simp [a2, b2]⟩

theorem trod_shape : ∀ (n : Nat) (t : TypeId) (S : List Sh), shapeT P n t = some S → ∀ (fuel : Nat) (cs : List Value) (x : DataW H × List MemPlace), DataW.trod enc P w base spare held fuel t cs = some x → okShs S cs ∧ x.2 = []
  | 0, t, S, h, _, _, _, _ => by simp [shapeT] at h
  | n + 1, t, S, h, fuel, cs, x, hx => by
    simp only [shapeT] at h
    split at h
    · rename_i ht
      obtain rfl := Option.some.inj h
      obtain ⟨b, rfl, rfl⟩ := DataW.trod_bool ht hx
      exact ⟨⟨⟨b, rfl⟩, trivial⟩, rfl⟩
    · rename_i k ht
      obtain rfl := Option.some.inj h
      obtain ⟨m, rfl, rfl, hw⟩ := DataW.trod_int ht hx
      exact ⟨⟨⟨m, rfl, hw⟩, trivial⟩, rfl⟩
    · rename_i k ht
      obtain rfl := Option.some.inj h
      cases fuel with
      | zero => simp [DataW.trod] at hx
      | succ m =>
        unfold DataW.trod at hx
        rw [ht] at hx
        split at hx <;> simp_all
        obtain ⟨⟨rfl, hw⟩, rfl⟩ := hx
        exact ⟨⟨⟨_, rfl, hw⟩, trivial⟩, rfl⟩
    · rename_i ht
      obtain rfl := Option.some.inj h
      obtain ⟨m, rfl, rfl, hw⟩ := DataW.trod_string ht hx
      exact ⟨⟨⟨m, rfl, hw⟩, trivial⟩, rfl⟩
    · rename_i fs ht
      split at h
      · rename_i S' hS'
        split at h
        · rename_i hl
          obtain rfl := Option.some.inj h
          obtain ⟨xs, m, rfl, rfl, h1, h2, h3⟩ := DataW.trod_struct ht hx
          obtain ⟨a, b⟩ := fields_shape (n := m) (fun t S hS cs x hx => trod_shape n t S hS m cs x hx) fs.toList 0 S' cs xs hS' (by rw [h1, hl]; omega) (by simpa using h2) fun i f hf => h3 i f (by simpa using hf)
          exact ⟨by simpa using a, b⟩
        · simp at h
      · simp at h
    · rename_i m e ht
      split at h
      · rename_i s hs
        split at h
        · rename_i hl
          obtain rfl := Option.some.inj h
          obtain ⟨xs, k, rfl, rfl, h1, h2, h3⟩ := DataW.trod_array ht hx
          obtain ⟨a, b⟩ := elems_shape (n := k) hl.1 (fun cs x hx => trod_shape n e s hs k cs x hx) m cs xs (by rw [h1, hl.2]) h2 h3
          exact ⟨a, b⟩
        · simp at h
      · simp at h
    · simp at h
end

theorem okShs_cons {s : Sh} {S : List Sh} {l : List Value} (h : okShs (s :: S) l) : ∃ v l', l = v :: l' ∧ okSh s v ∧ okShs S l' := by
  cases l with
  | nil => exact absurd h id
  | cons v l => exact ⟨v, l, rfl, h.1, h.2⟩
theorem okShs_nil {l : List Value} (h : okShs [] l) : l = [] := by
  cases l with
  | nil => rfl
  | cons v l => exact absurd h id
theorem okI64 {v : Value} (h : okSh (.i .i64) v) : ∃ n, v = .int .i64 n ∧ -9223372036854775808 ≤ n ∧ n ≤ 9223372036854775807 := by
  obtain ⟨n, rfl, hw⟩ := h
  exact ⟨n, rfl, (bounds_i64 hw).1, (bounds_i64 hw).2⟩
theorem okU64 {v : Value} (h : okSh (.i .u64) v) : ∃ n, v = .int .u64 n ∧ 0 ≤ n ∧ n ≤ 18446744073709551615 := by
  obtain ⟨n, rfl, hw⟩ := h
  exact ⟨n, rfl, (bounds_u64 hw).1, (bounds_u64 hw).2⟩
theorem okU8 {v : Value} (h : okSh (.i .u8) v) : ∃ n, v = .int .u8 n ∧ 0 ≤ n ∧ n ≤ 255 := by
  obtain ⟨n, rfl, hw⟩ := h
  exact ⟨n, rfl, (bounds_u8 hw).1, (bounds_u8 hw).2⟩
/-- An instruction's cells. -/
theorem okInst {l : List Value} (h : okShs [.i .i64, .i .i64, .i .i64, .i .i64, .i .i64, .b, .b, .i .i64, .i .i64] l) : ∃ (op rd r1 r2 imm : Int) (aq rl : Bool) (p s : Int),
    l = [.int .i64 op, .int .i64 rd, .int .i64 r1, .int .i64 r2, .int .i64 imm, .bool aq, .bool rl, .int .i64 p, .int .i64 s] ∧ (-9223372036854775808 ≤ op ∧ op ≤ 9223372036854775807) ∧ (-9223372036854775808 ≤ rd ∧ rd ≤ 9223372036854775807) ∧ (-9223372036854775808 ≤ r1 ∧ r1 ≤ 9223372036854775807) ∧ (-9223372036854775808 ≤ r2 ∧ r2 ≤ 9223372036854775807) ∧ (-9223372036854775808 ≤ imm ∧ imm ≤ 9223372036854775807) ∧ (-9223372036854775808 ≤ p ∧ p ≤ 9223372036854775807) ∧ (-9223372036854775808 ≤ s ∧ s ≤ 9223372036854775807) := by
  obtain ⟨c0, l0, rfl, k0, h⟩ := okShs_cons h
  obtain ⟨c1, l1, rfl, k1, h⟩ := okShs_cons h
  obtain ⟨c2, l2, rfl, k2, h⟩ := okShs_cons h
  obtain ⟨c3, l3, rfl, k3, h⟩ := okShs_cons h
  obtain ⟨c4, l4, rfl, k4, h⟩ := okShs_cons h
  obtain ⟨c5, l5, rfl, k5, h⟩ := okShs_cons h
  obtain ⟨c6, l6, rfl, k6, h⟩ := okShs_cons h
  obtain ⟨c7, l7, rfl, k7, h⟩ := okShs_cons h
  obtain ⟨c8, l8, rfl, k8, h⟩ := okShs_cons h
  obtain rfl := okShs_nil h
  obtain ⟨n0, rfl, b0⟩ := okI64 k0
  obtain ⟨n1, rfl, b1⟩ := okI64 k1
  obtain ⟨n2, rfl, b2⟩ := okI64 k2
  obtain ⟨n3, rfl, b3⟩ := okI64 k3
  obtain ⟨n4, rfl, b4⟩ := okI64 k4
  obtain ⟨n5, rfl⟩ := k5
  obtain ⟨n6, rfl⟩ := k6
  obtain ⟨n7, rfl, b7⟩ := okI64 k7
  obtain ⟨n8, rfl, b8⟩ := okI64 k8
  exact ⟨n0, n1, n2, n3, n4, n5, n6, n7, n8, rfl, b0, b1, b2, b3, b4, b7, b8⟩
theorem okSh_sc0 {s : Sh} {v : Value} (h : okSh s v) : isSc0 v = true := by
  cases s <;> simp only [okSh] at h
  · obtain ⟨x, rfl⟩ := h; rfl
  · obtain ⟨x, rfl, _⟩ := h; rfl
  · obtain ⟨x, rfl, _⟩ := h; rfl
  · obtain ⟨x, rfl, _⟩ := h; rfl
theorem okShs_sc0 : ∀ {S : List Sh} {cs : List Value}, okShs S cs → cs.all isSc0 = true
  | [], [], _ => rfl
  | [], _ :: _, h => absurd h id
  | _ :: _, [], h => absurd h id
  | _ :: S, _ :: cs, h => by simp only [List.all_cons, Bool.and_eq_true]; exact ⟨okSh_sc0 h.1, okShs_sc0 h.2⟩
end Go.Lev

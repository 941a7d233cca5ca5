/- Rows of a table for the library: from contracts. -/
import Derived.Test.YtffclchaoifleaaGreatDoorLvC
import Derived.Lib.ParseIntB
import Derived.Lib.ItoaNum
import Derived.Lib.IndexMore
import Derived.Lib.Join
set_option linter.unusedVariables false
set_option linter.unusedSimpArgs false
set_option linter.constructorNameAsVariable false

set_option linter.unusedVariables false
set_option linter.unusedSimpArgs false
namespace Go.Lev
open Go Go.RowKit

/-- A row of a function of plain values. -/
def scRow (G : List Value → Option Value) : Nat → List Value → Heap → Option (Value × Heap) := fun _ args H =>
  if args.all isSc = true then (G args).map (·, H) else none

/-- What a contract says of a function of plain values. -/
def ScOK (P : Program) (w0 : World) (G : List Value → Option Value) (f : FuncId) : Prop :=
  ∀ args v, G args = some v → isScT v = true ∧ ∀ w, Below w0.heap.size w0 w → Calls P f args.toArray w fun e w' => e = .returned v ∧ Below w.heap.size w w'

theorem scRow_valid {P : Program} {w0 : World} {G : List Value → Option Value} {f : FuncId} (hc : callOK P f) (hG : ScOK P w0 G f) : ValidAt P w0 (scRow G) f := by
  intro fl args H v H' h
  unfold scRow at h
  split at h
  · rename_i hs
    obtain ⟨x, hx, e⟩ := Option.map_eq_some_iff.1 h
    simp only [Prod.mk.injEq] at e
    obtain ⟨rfl, rfl⟩ := e
    obtain ⟨h1, h2⟩ := hG args x hx
    refine ⟨hc, .refl _ _, fun ρ w args' R hL => ?_⟩
    have e := hL.sc hs
    have e2 : args' = args.toArray := by rw [← e]
    subst e2
    refine (h2 w R.below).mono fun e w' ⟨he, hb⟩ => ?_
    obtain ⟨R', X⟩ := R.grown hb
    exact ⟨x, ρ, he, .ofScT h1, R', X⟩
  · simp at h

theorem scRow_same {G : List Value → Option Value} {fl : Nat} {args : List Value} {H H' : Heap} {v : Value} (h : scRow G fl args H = some (v, H')) : H' = H := by
  unfold scRow at h
  split at h
  · obtain ⟨x, _, e⟩ := Option.map_eq_some_iff.1 h
    simp only [Prod.mk.injEq] at e
    exact e.2.symm
  · simp at h

def gItoa : List Value → Option Value
  | [.int .i64 n] => if -9223372036854775808 ≤ n ∧ n ≤ 9223372036854775807 then some (.string ⟨(Lib.itoa n).toArray⟩) else none
  | _ => none
def gFmt : List Value → Option Value
  | [.int .i64 n, .int .i64 10] => if -9223372036854775808 ≤ n ∧ n ≤ 9223372036854775807 then some (.string ⟨(Lib.itoa n).toArray⟩) else none
  | _ => none
def gCut : List Value → Option Value
  | [.string s, .string sep] => if s.size < 4294967281 then
      some (.tuple #[.string ⟨(Lib.cut s.data.toList sep.data.toList).1.toArray⟩, .string ⟨(Lib.cut s.data.toList sep.data.toList).2.1.toArray⟩, .bool (Lib.cut s.data.toList sep.data.toList).2.2]) else none
  | _ => none
def gIndex : List Value → Option Value
  | [.string s, .string sub] => if s.size < 4294967281 then some (.int .i64 (Lib.index s.data.toList sub.data.toList)) else none
  | _ => none
def gHas : List Value → Option Value
  | [.string s, .string sub] => if s.size < 4294967281 then some (.bool (Lib.contains s.data.toList sub.data.toList)) else none
  | _ => none

/-- strconv.ParseInt(s, 10, 64): an error is a pointer to a box of which nothing is told. -/
def rParse (te : TypeId) : Nat → List Value → Heap → Option (Value × Heap) := fun _ args H =>
  match args with
  | [.string s, .int .i64 10, .int .i64 64] => if s.size ≤ 281474976710656 then
      match Lib.parseIntB 64 s.data.toList with
      | .ok v => some (.tuple #[.int .i64 v, .nilIface], H)
      | .range => some (.tuple #[.int .i64 (Lib.intSat 64 s.data.toList), .iface te (.pointer (some ⟨H.length, 0, some 0⟩))], H ++ [emptyBox])
      | _ => some (.tuple #[.int .i64 0, .iface te (.pointer (some ⟨H.length, 0, some 0⟩))], H ++ [emptyBox])
    else none
  | _ => none

def ParseOK (P : Program) (w0 : World) (te : TypeId) (f : FuncId) : Prop :=
  ∀ (s : ByteArray) w, s.size ≤ 281474976710656 → Below w0.heap.size w0 w → Calls P f #[.string s, .int .i64 10, .int .i64 64] w fun e w' => Below w.heap.size w w' ∧
    match Lib.parseIntB 64 s.data.toList with
    | .ok v => e = .returned (.tuple #[.int .i64 v, .nilIface])
    | .range => ∃ N cs tt, e = .returned (.tuple #[.int .i64 (Lib.intSat 64 s.data.toList), .iface te (.pointer (some ⟨N, 0, none⟩))]) ∧ w.heap.size ≤ N ∧ w'.heap[N]? = some (.cells cs tt (0, 0))
    | _ => ∃ N cs tt, e = .returned (.tuple #[.int .i64 0, .iface te (.pointer (some ⟨N, 0, none⟩))]) ∧ w.heap.size ≤ N ∧ w'.heap[N]? = some (.cells cs tt (0, 0))

theorem tup2 {N : Nat} {ρ : Nat → RB} {h : Array Obj} {a b a' b' : Value} (r : VRel N ρ h a a') (s : VRel N ρ h b b') : VRel N ρ h (.tuple #[a, b]) (.tuple #[a', b']) :=
  .tuple _ _ rfl fun i v v' h1 h2 => by
    match i with
    | 0 => simp at h1 h2; subst h1; subst h2; exact r
    | 1 => simp at h1 h2; subst h1; subst h2; exact s
    | i + 2 => simp at h1

theorem rParse_valid {P : Program} {w0 : World} {te : TypeId} {f : FuncId} (hc : callOK P f) (hp : ParseOK P w0 te f) : ValidAt P w0 (rParse te) f := by
  intro fl args H v H' h
  unfold rParse at h
  split at h
  · rename_i s
    split at h
    · rename_i hs
      have key : ∀ (ρ : Nat → RB) (w : World) (args' : Array Value), LRel H.length ρ w.heap [.string s, .int .i64 10, .int .i64 64] args'.toList → args' = #[.string s, .int .i64 10, .int .i64 64] := fun ρ w args' hL => by
        have e := hL.sc (by simp [isSc, isSc0])
        cases args'
        simp only at e
        rw [e]
      have err : ∀ (n : Int) (ρ : Nat → RB) (w w' : World), Rel w0 ρ H w → Below w.heap.size w w' → ∀ N cs tt, w.heap.size ≤ N → w'.heap[N]? = some (.cells cs tt (0, 0)) →
          ∃ ρ', VRel (H ++ [emptyBox]).length ρ' w'.heap (.tuple #[.int .i64 n, .iface te (.pointer (some ⟨H.length, 0, some 0⟩))]) (.tuple #[.int .i64 n, .iface te (.pointer (some ⟨N, 0, none⟩))]) ∧ Rel w0 ρ' (H ++ [emptyBox]) w' ∧ Ext H.length ρ w.heap (H ++ [emptyBox]).length ρ' w'.heap := by
        intro n ρ w w' R hb N cs tt hN hh
        obtain ⟨ρ', R', X, hρ⟩ := R.blind hb hN hh
        refine ⟨ρ', tup2 (.int _ _) (.iface _ _ _ (.ptr _ _ _ _ (by simp) (Nat.zero_le _) fun _ => by rw [hρ])), R', X⟩
      have bad : ∀ n : Int, (∀ w, Below w0.heap.size w0 w → Calls P f #[.string s, .int .i64 10, .int .i64 64] w fun e w' => Below w.heap.size w w' ∧ ∃ N cs tt, e = .returned (.tuple #[.int .i64 n, .iface te (.pointer (some ⟨N, 0, none⟩))]) ∧ w.heap.size ≤ N ∧ w'.heap[N]? = some (.cells cs tt (0, 0))) →
          some (Value.tuple #[.int .i64 n, .iface te (.pointer (some ⟨H.length, 0, some 0⟩))], H ++ [emptyBox]) = some (v, H') → callOK P f ∧ FloorOK fl H H' ∧ ∀ ρ w (args' : Array Value), Rel w0 ρ H w → LRel H.length ρ w.heap [.string s, .int .i64 10, .int .i64 64] args'.toList →
          Calls P f args' w fun e w' => ∃ v' ρ', e = .returned v' ∧ VRel H'.length ρ' w'.heap v v' ∧ Rel w0 ρ' H' w' ∧ Ext H.length ρ w.heap H'.length ρ' w'.heap := by
        intro n hn h
        simp only [Option.some.injEq, Prod.mk.injEq] at h
        obtain ⟨rfl, rfl⟩ := h
        refine ⟨hc, .push _ _ _, fun ρ w args' R hL => ?_⟩
        rw [key ρ w args' hL]
        refine (hn w R.below).mono fun e w' ⟨hb, N, cs, tt, he, hN, hh⟩ => ?_
        obtain ⟨ρ', k1, k2, k3⟩ := err n ρ w w' R hb N cs tt hN hh
        exact ⟨_, ρ', he, k1, k2, k3⟩
      cases hx : Lib.parseIntB 64 s.data.toList with
      | ok x =>
        simp only [hx, Option.some.injEq, Prod.mk.injEq] at h
        obtain ⟨rfl, rfl⟩ := h
        refine ⟨hc, .refl _ _, fun ρ w args' R hL => ?_⟩
        rw [key ρ w args' hL]
        refine (hp s w hs R.below).mono fun e w' ⟨hb, he⟩ => ?_
        simp only [hx] at he
        obtain ⟨R', X⟩ := R.grown hb
        exact ⟨_, ρ, he, tup2 (.int _ _) .nilIface, R', X⟩
      | range =>
        simp only [hx] at h
        exact bad _ (fun w hb => (hp s w hs hb).mono fun e w' ⟨hb, he⟩ => by simp only [hx] at he; exact ⟨hb, he⟩) h
      | _ =>
        simp only [hx] at h
        exact bad _ (fun w hb => (hp s w hs hb).mono fun e w' ⟨hb, he⟩ => by simp only [hx] at he; exact ⟨hb, he⟩) h
    · simp at h
  · simp at h

/-- The texts of a row of strings. -/
def strsOf : List Value → Option (List ByteArray)
  | [] => some []
  | .string s :: l => (strsOf l).map (s :: ·)
  | _ :: _ => none
theorem strsOf_get : ∀ (l : List Value) (xs : List ByteArray), strsOf l = some xs → xs.length = l.length ∧ ∀ (i : Nat) (x : ByteArray), xs[i]? = some x → l[i]? = some (Value.string x)
  | [], xs, h => by simp only [strsOf, Option.some.injEq] at h; subst h; exact ⟨rfl, fun i x hx => by simp at hx⟩
  | v :: l, xs, h => by
    cases v with
    | string s =>
      simp only [strsOf, Option.map_eq_some_iff] at h
      obtain ⟨ys, hy, rfl⟩ := h
      obtain ⟨h1, h2⟩ := strsOf_get l ys hy
      refine ⟨by simp [h1], fun i x hx => ?_⟩
      cases i with
      | zero => simp at hx; subst hx; rfl
      | succ i => simpa using h2 i x (by simpa using hx)
    | _ => simp [strsOf] at h

/-- strings.Join. -/
def rJoin : Nat → List Value → Heap → Option (Value × Heap) := fun _ args H =>
  match args with
  | [.slice none _ _, .string sep] => some (.string ⟨#[]⟩, H)
  | [.slice (some a) n _, .string sep] => match rdN H a n with
    | some cs => match strsOf cs with
      | some xs => if 0 < n ∧ (Lib.join (xs.map (·.data.toList)) sep.data.toList).length ≤ 140737488355328 ∧ n ≤ 140737488355328 then
          some (.string ⟨(Lib.join (xs.map (·.data.toList)) sep.data.toList).toArray⟩, H) else none
      | none => none
    | none => none
  | _ => none

def JoinOK (P : Program) (f : FuncId) : Prop :=
  (∀ (a : Option Addr) (c : Nat) (sep : ByteArray) (w : World), Calls P f #[.slice a 0 c, .string sep] w fun e w' => e = .returned (.string ⟨#[]⟩) ∧ w' = w) ∧
  ∀ (bk o c : Nat) (xs : List ByteArray) (sep : ByteArray) (w : World), (∀ (j : Nat) x, xs[j]? = some x → w.cell? ⟨bk, o + j, none⟩ = some (.string x)) → bk < w.heap.size → xs.length ≤ 140737488355328 → xs.length ≤ c →
    (Lib.join (xs.map (·.data.toList)) sep.data.toList).length ≤ 140737488355328 →
    Calls P f #[.slice (some ⟨bk, o, none⟩) xs.length c, .string sep] w fun e w' => e = .returned (.string ⟨(Lib.join (xs.map (·.data.toList)) sep.data.toList).toArray⟩) ∧ Below w.heap.size w w'

theorem rJoin_valid {P : Program} {w0 : World} {f : FuncId} (hc : callOK P f) (hp : JoinOK P f) : ValidAt P w0 rJoin f := by
  intro fl args H v H' h
  unfold rJoin at h
  split at h
  · rename_i n c sep
    simp only [Option.some.injEq, Prod.mk.injEq] at h
    obtain ⟨rfl, rfl⟩ := h
    refine ⟨hc, .refl _ _, fun ρ w args' R hL => ?_⟩
    obtain ⟨l'⟩ := args'
    simp only at hL
    obtain ⟨a, ha, r1⟩ := hL.get (i := 0) rfl
    obtain ⟨b, hb, r2⟩ := hL.get (i := 1) rfl
    have hlen := hL.1
    match l', hlen, ha, hb with
    | [a1, b1], _, ha, hb =>
      simp at ha hb
      subst ha
      subst hb
      cases r1
      cases r2
      refine (hp.1 none 0 sep w).mono fun e w' ⟨he, hw⟩ => ?_
      subst hw
      exact ⟨_, ρ, he, .string _, R, .refl _ _ _⟩
  · rename_i ad n c sep
    split at h
    · rename_i cs hcs
      split at h
      · rename_i xs hxs
        split at h
        · rename_i hn
          simp only [Option.some.injEq, Prod.mk.injEq] at h
          obtain ⟨rfl, rfl⟩ := h
          refine ⟨hc, .refl _ _, fun ρ w args' R hL => ?_⟩
          obtain ⟨l'⟩ := args'
          simp only at hL
          obtain ⟨a, ha, r1⟩ := hL.get (i := 0) rfl
          obtain ⟨b, hb, r2⟩ := hL.get (i := 1) rfl
          have hlen := hL.1
          match l', hlen, ha, hb with
          | [a1, b1], _, ha, hb =>
            simp at ha hb
            subst ha
            subst hb
            cases r2
            obtain ⟨bx, hbx, hsp, hle, hcs'⟩ := rdN_some hcs
            have hB := R.box _ _ hbx
            obtain ⟨hx1, hx2⟩ := strsOf_get cs xs hxs
            cases r1 with
            | slice id off g _ _ c' ad' hid hg hnc hA =>
              have hgen : g = (ρ id).gen := by
                have : some g = some bx.gen := hsp
                rw [hB.gen]
                exact Option.some.inj this
              have hle' : off + n ≤ bx.cells.length := hle
              have hcl : cs.length = n := by rw [hcs', List.length_take, List.length_drop]; show min n (bx.cells.length - off) = n; omega
              obtain ⟨ds, tt, fr, q1, q2, q3, q4⟩ := hB.cells
              have had := (hA hgen).1 (by omega)
              subst had
              have e : n = xs.length := by omega
              subst e
              refine (hp.2 _ _ c' xs sep w (fun j x hj => ?_) (R.boxBlk hbx) hn.2.2 hnc hn.2.1).mono fun e w' ⟨he, hw⟩ => ?_
              · have hj1 := hx2 j x hj
                have hjl := (List.getElem?_eq_some_iff.1 hj).1
                rw [hcs', List.getElem?_take, if_pos hjl, List.getElem?_drop] at hj1
                obtain ⟨v', k1, k2⟩ := R.cell hbx hj1
                cases k2
                rw [← k1, Nat.add_assoc]
              · obtain ⟨R', X⟩ := R.grown hw
                exact ⟨_, ρ, he, .string _, R', X⟩
        · simp at h
      · simp at h
    · simp at h
  · simp at h

theorem rJoin_same {fl : Nat} {args : List Value} {H H' : Heap} {v : Value} (h : rJoin fl args H = some (v, H')) : H' = H := by
  unfold rJoin at h
  split at h
  · simp only [Option.some.injEq, Prod.mk.injEq] at h; exact h.2.symm
  · split at h
    · split at h
      · split at h
        · simp only [Option.some.injEq, Prod.mk.injEq] at h; exact h.2.symm
        · simp at h
      · simp at h
    · simp at h
  · simp at h

end Go.Lev

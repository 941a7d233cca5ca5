/- Operations with calls; regions in the order of the text. -/
import Derived.Test.YtcaogimdpcaohaaDoorLev10
import Derived.Scope
set_option linter.unusedVariables false
set_option linter.unusedSimpArgs false
namespace Go.Lev
open Go Go.RowKit

def FloorOK (fl : Nat) (H H' : Heap) : Prop := ∀ (id : Nat) (b : Box), id < fl → H[id]? = some b → H'[id]? = some b
theorem FloorOK.refl (fl : Nat) (H : Heap) : FloorOK fl H H := fun _ _ _ h => h
theorem FloorOK.trans {fl : Nat} {H H' H'' : Heap} (a : FloorOK fl H H') (b : FloorOK fl H' H'') : FloorOK fl H H'' := fun id x h k => b id x h (a id x h k)
theorem FloorOK.push (fl : Nat) (H : Heap) (b : Box) : FloorOK fl H (H ++ [b]) := fun id x _ h => by
  rw [List.getElem?_append_left (List.getElem?_eq_some_iff.1 h).1]; exact h
theorem FloorOK.set {fl : Nat} (H : Heap) {j : Nat} (hj : fl ≤ j) (b : Box) : FloorOK fl H (H.set j b) := fun id x hi h => by
  rw [List.getElem?_set_ne (by omega)]; exact h

def callOK (P : Program) (f : FuncId) : Prop := ∃ fn, P.funcs[f]? = some fn ∧ (fn.name == "runtime.NumGoroutine") = false ∧ fn.body.isNone = false

/-- What a table's row says is what the call does. -/
def ValidAt (P : Program) (w0 : World) (F : Nat → List Value → Heap → Option (Value × Heap)) (f : FuncId) : Prop :=
  ∀ fl args H v H', F fl args H = some (v, H') → callOK P f ∧ FloorOK fl H H' ∧ ∀ ρ w (args' : Array Value), Rel w0 ρ H w → LRel H.length ρ w.heap args args'.toList →
    Calls P f args' w fun e w' => ∃ v' ρ', e = .returned v' ∧ VRel H'.length ρ' w'.heap v v' ∧ Rel w0 ρ' H' w' ∧ Ext H.length ρ w.heap H'.length ρ' w'.heap

def Valid (P : Program) (w0 : World) (T : Tab) : Prop := ∀ f, ValidAt P w0 (T f) f

theorem step_floor {P : Program} {T : Tab} (hT : ∀ f fl args H v H', T f fl args H = some (v, H') → FloorOK fl H H') {fl : Nat} {env : Nat → Value} {H H' : Heap} {v : Value} {lo : LO} (hs : lo.step P T fl env H = some (v, H')) : FloorOK fl H H' := by
  have wr : ∀ {a vs K}, wrN fl H a vs = some K → FloorOK fl H K := fun h => by
    obtain ⟨b, hb, _, _, hfl, _, _, rfl⟩ := wrN_some h
    exact .set H hfl _
  cases lo with
  | app esz bytes s x =>
    simp only [LO.step] at hs
    unfold appV at hs
    split at hs
    · simp at hs
    · split at hs
      · simp at hs
      · split at hs
        · split at hs
          · simp only [Option.some.injEq, Prod.mk.injEq] at hs; obtain ⟨_, rfl⟩ := hs; exact .refl _ _
          · split at hs
            · simp only [Option.some.injEq, Prod.mk.injEq] at hs; obtain ⟨_, rfl⟩ := hs; exact .push _ _ _
            · simp at hs
        · split at hs
          · simp at hs
          · split at hs
            · rename_i hc
              split at hs
              · simp only [Option.some.injEq, Prod.mk.injEq] at hs; obtain ⟨_, rfl⟩ := hs; exact .refl _ _
              · simp only [Option.some.injEq, Prod.mk.injEq] at hs; obtain ⟨_, rfl⟩ := hs; exact .set H hc.2.2.2.2.1 _
            · simp at hs
        · simp at hs
  | call f args =>
    simp only [LO.step] at hs
    split at hs
    · exact hT _ _ _ _ _ _ hs
    · simp at hs
  | store n a x =>
    simp only [LO.step] at hs
    split at hs
    · split at hs
      · simp only [Option.map_eq_some_iff, Prod.mk.injEq] at hs; obtain ⟨K, hK, _, rfl⟩ := hs; exact wr hK
      · simp at hs
    · simp at hs
  | cpy esz d s =>
    simp only [LO.step] at hs
    split at hs
    · simp only [Option.some.injEq, Prod.mk.injEq] at hs; obtain ⟨_, rfl⟩ := hs; exact .refl _ _
    · simp only [Option.map_eq_some_iff, Prod.mk.injEq] at hs; obtain ⟨K, hK, _, rfl⟩ := hs; exact wr hK
    · simp at hs
  | alloc z => simp only [LO.step, Option.some.injEq, Prod.mk.injEq] at hs; obtain ⟨_, rfl⟩ := hs; exact .push _ _ _
  | box x => simp only [LO.step, Option.some.injEq, Prod.mk.injEq] at hs; obtain ⟨_, rfl⟩ := hs; exact .push _ _ _
  | row a b c d => simp only [LO.step, Option.map_eq_some_iff, Prod.mk.injEq] at hs; obtain ⟨_, _, _, rfl⟩ := hs; exact .push _ _ _
  | mk a b c d e =>
    simp only [LO.step] at hs
    split at hs
    · split at hs
      · simp only [Option.some.injEq, Prod.mk.injEq] at hs; obtain ⟨_, rfl⟩ := hs; exact .push _ _ _
      · simp at hs
    · simp at hs
  | _ =>
    have : H' = H := by
      simp only [LO.step] at hs
      first
        | (simp only [Option.some.injEq, Prod.mk.injEq] at hs; exact hs.2.symm)
        | (simp only [Option.map_eq_some_iff, Prod.mk.injEq] at hs; obtain ⟨_, _, _, h⟩ := hs; exact h.symm)
        | (repeat' (split at hs)
           all_goals first
             | (simp at hs; done)
             | (simp only [Option.some.injEq, Prod.mk.injEq] at hs; exact hs.2.symm)
             | (simp only [Option.map_eq_some_iff, Prod.mk.injEq] at hs; obtain ⟨_, _, _, h⟩ := hs; exact h.symm))
    rw [this]
    exact .refl _ _

section
variable {P : Program} {T : Tab} {fl : Nat} {env : Nat → Value} {H H' : Heap} {w0 w : World} {ρ : Nat → RB} {a : Act} {v : Value}

theorem operands_ok {o : Oper} (h : o.op.operands.all okX = true) : ∀ x ∈ o.op.operands, okX x = true := by
  rw [Array.all_eq_true_iff_forall_mem] at h
  exact h

/-- An operation that is no call of a function. -/
theorem comp_res (R : Rel w0 ρ H w) (E : ERel H.length ρ w.heap env a) {m : Bool} {o : Oper} {lo : LO} (hc : comp P m o = some lo) (hcall : ∀ f xs, lo ≠ .call f xs) (hs : lo.step P T fl env H = some (v, H')) :
    NRes w0 ρ H w v H' ((execOp a.eval o).run P w) := by
  unfold comp at hc
  split at hc
  case isFalse => simp at hc
  rename_i hall
  have hok := operands_ok hall
  by_cases hpr : lo = .pr o
  · subst hpr
    refine pr_res R E hall (fun cs b h => ?_) hs
    rw [h] at hc
    simp [compIn] at hc
  obtain ⟨dst, op, type, pos, after, guard⟩ := o
  cases op <;> simp only [compIn] at hc <;> simp only [Op.operands] at hok <;> try (simp at hc; done)
  case move x =>
    obtain rfl := Option.some.inj hc
    simp only [LO.step, Option.some.injEq, Prod.mk.injEq] at hs
    obtain ⟨rfl, rfl⟩ := hs
    exact ⟨_, _, w, ρ, rfl, .inl rfl, E.ev (hok x (by simp)), R, .refl _ _ _⟩
  case assign x =>
    obtain rfl := Option.some.inj hc
    simp only [LO.step, Option.some.injEq, Prod.mk.injEq] at hs
    obtain ⟨rfl, rfl⟩ := hs
    exact ⟨_, _, w, ρ, rfl, .inl rfl, E.ev (hok x (by simp)), R, .refl _ _ _⟩
  case pick c x y =>
    obtain rfl := Option.some.inj hc
    simp only [LO.step] at hs
    split at hs
    · rename_i b hev
      simp only [Option.some.injEq, Prod.mk.injEq] at hs
      obtain ⟨rfl, rfl⟩ := hs
      have hv := E.ev (hok c (by simp))
      rw [hev] at hv
      have hv' : a.eval c = .bool b := by generalize a.eval c = X at hv; cases hv; rfl
      refine ⟨.value (if b then a.eval x else a.eval y), _, w, ρ, by simp [execOp, hv', asBool], .inl rfl, ?_, R, .refl _ _ _⟩
      cases b
      · exact E.ev (hok y (by simp))
      · exact E.ev (hok x (by simp))
    · simp at hs
  case alloc e => exact (alloc_res R hc hs).value
  case box e x =>
    obtain rfl := Option.some.inj hc
    exact (box_res R E (hok x (by simp)) hs).value
  case build t parts => exact (build_res R E (by rw [List.all_eq_true]; intro p hp; exact hok p.2 (by simp; exact ⟨p.1, by simpa using hp⟩)) hc hs).value
  case buildSlice t n parts => exact (row_res R E (by rw [List.all_eq_true]; intro p hp; exact hok p.2 (by simp; exact ⟨p.1, by simpa using hp⟩)) hc hs).value
  case load t x => exact (load_res R E (hok x (by simp)) hc hs).value
  case store t x y =>
    obtain ⟨w', ρ', rfl, h1, h2, h3⟩ := store_res R E (hok x (by simp)) (hok y (by simp)) hc hs
    exact ⟨.skip, undef, w', ρ', by simp [execOp, h1], .inr ⟨rfl, rfl⟩, .undef _ _ _, h2, h3⟩
  case nilCheck x =>
    obtain rfl := Option.some.inj hc
    simp only [LO.step] at hs
    split at hs
    · rename_i ad hev
      simp only [Option.some.injEq, Prod.mk.injEq] at hs
      obtain ⟨rfl, rfl⟩ := hs
      have hv := E.ev (hok x (by simp))
      rw [hev] at hv
      have hq : ∃ ra, a.eval x = .pointer (some ra) := by generalize a.eval x = X at hv; cases hv; exact ⟨_, rfl⟩
      obtain ⟨ra, hra⟩ := hq
      exact ⟨.value (.pointer (some ra)), _, w, ρ, by simp [execOp, hra], .inl rfl, by rw [hra] at hv; exact hv, R, .refl _ _ _⟩
    · simp at hs
  case binOp op t x y t' =>
    unfold cBin at hc
    split at hc
    · rename_i hcond
      simp only [Bool.and_eq_true, Bool.or_eq_true, beq_iff_eq] at hcond
      obtain rfl := Option.some.inj hc
      exact (isNil_res R E (hok x (by simp)) hcond.1.1 hcond.2 hs).value
    · split at hc
      · obtain rfl := Option.some.inj hc
        exact (bin_res R E (hok x (by simp)) (hok y (by simp)) hs).value
      · obtain rfl := Option.some.inj hc
        exact (bin_res R E (hok x (by simp)) (hok y (by simp)) hs).value
      · rename_i hu
        obtain rfl := Option.some.inj hc
        exact (binB_res R E (hok x (by simp)) (hok y (by simp)) hu hs).value
      · rename_i fs hu
        split at hc
        · rename_i l hl
          split at hc
          · rename_i hcond2
            obtain rfl := Option.some.inj hc
            have hop : op = .eql ∨ op = .neq := by have := hcond2.2; simpa using this
            exact (eqA_res R E (hok x (by simp)) (hok y (by simp)) hl (by simp [tyAgg, hu]) hcond2.1 hop hs).value
          · simp at hc
        · simp at hc
      · rename_i n e hu
        split at hc
        · rename_i l hl
          split at hc
          · rename_i hcond2
            obtain rfl := Option.some.inj hc
            have hop : op = .eql ∨ op = .neq := by have := hcond2.2; simpa using this
            exact (eqA_res R E (hok x (by simp)) (hok y (by simp)) hl (by simp [tyAgg, hu]) hcond2.1 hop hs).value
          · simp at hc
        · simp at hc
      · exact absurd (Option.some.inj hc).symm hpr
  case unOp op t x =>
    obtain rfl := Option.some.inj hc
    exact (un_res R E (hok x (by simp)) hs).value
  case convert s d x => exact (conv_res R E (hok x (by simp)) hc hpr hs).value
  case makeInterface t x => exact (mkI_res R E (hok x (by simp)) hc hs).value
  case makeFunc fn fs cs =>
    cases fn with
    | func f =>
      obtain rfl := Option.some.inj hc
      exact (mkf_res R E (fun x hx => hok x (by simp [hx])) (fun x hx => hok x (by simp [hx])) hs).value
    | _ => simp at hc
  case makeSlice t l c => exact (mk_res R E (hok l (by simp)) (hok c (by simp)) hc hs).value
  case slice t x lo hi mx =>
    have q : ∀ y : Option Operand, (∀ z ∈ y.toArray, okX z = true) → okOX y = true := fun y h => by cases y with
      | none => rfl
      | some z => exact h z (by simp)
    split at hc
    · simp at hc
    · rename_i hm
      have hm' : mx ≠ none → hi ≠ none := fun h1 h2 => hm (by simp [h2, Option.isSome_iff_ne_none.2 h1])
      exact (slice_res R E (hok x (by simp)) (q lo fun z hz => hok z (by simp at hz ⊢; exact .inr (.inl hz))) (q hi fun z hz => hok z (by simp at hz ⊢; exact .inr (.inr (.inl hz)))) (q mx fun z hz => hok z (by simp at hz ⊢; exact .inr (.inr (.inr hz)))) hc hm' hs).value
  case fieldAddr s x f => exact (fieldAddr_res R E (hok x (by simp)) hc hs).value
  case field s x f => exact (field_res R E (hok x (by simp)) hc hs).value
  case indexAddr t x y => exact (indexAddr_res R E (hok x (by simp)) (hok y (by simp)) hc hs).value
  case index t x y => exact (index_res R E (hok x (by simp)) (hok y (by simp)) hc hs).value
  case extract x i =>
    obtain rfl := Option.some.inj hc
    exact (ext_res R E (hok x (by simp)) hs).value
  case call c =>
    obtain ⟨callee, args, argTypes⟩ := c
    have hok2 : ∀ x ∈ args, okX x = true := fun x hx => hok x (by simp [Call.operands, hx])
    unfold cCall at hc
    simp only at hc
    split at hc
    · obtain rfl := Option.some.inj hc
      exact absurd rfl (hcall _ _)
    · have := (len_res (ty := type) R E hok2 hc hs).value
      simpa [execOp, resolve, invoke, builtin] using this
    · have := (appb_res (ty := type) R E hok2 hc hs).value
      simpa [execOp, resolve, invoke, builtin] using this
    · have := (cpy_res (ty := type) R E hok2 hc hs).value
      simpa [execOp, resolve, invoke, builtin] using this
    · split at hc
      · rename_i x y hxy
        obtain rfl := Option.some.inj hc
        have hx' : args = #[x, y] := by apply Array.ext'; simpa using hxy
        subst hx'
        have := (mn_res (ts := argTypes) (ty := type) R E (hok2 x (by simp)) (hok2 y (by simp)) hs).value
        simpa [execOp, resolve, invoke, builtin] using this
      · simp at hc
    · split at hc
      · rename_i x y hxy
        obtain rfl := Option.some.inj hc
        have hx' : args = #[x, y] := by apply Array.ext'; simpa using hxy
        subst hx'
        have := (mx_res (ts := argTypes) (ty := type) R E (hok2 x (by simp)) (hok2 y (by simp)) hs).value
        simpa [execOp, resolve, invoke, builtin] using this
      · simp at hc
    · simp at hc

end
end Go.Lev

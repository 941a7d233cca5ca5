/- Runs at all depths. -/
import Derived.Test.YtffclchaoifleaaGreatDoorTx
import Derived.Test.YtffclchaoifleaaGreatDoorLvF
set_option linter.unusedVariables false
set_option linter.unusedSimpArgs false
set_option linter.constructorNameAsVariable false

namespace Go.Lev.Seat
open Go Go.Lev
set_option linter.unusedSimpArgs false
set_option linter.unusedVariables false

/-- Rounds of a loop, at most. -/
def K : Nat := 100000
/-- A function of plain values: what it hands back, at all depths from d0 on, beside any memory. -/
def Run (d0 : Nat) (f : FuncId) (args : List Value) (v : Value) : Prop := ∀ d fl H, d0 ≤ d → T K d f fl args H = some (v, H)

theorem Run.mono {d0 d1 : Nat} {f : FuncId} {args : List Value} {v : Value} (h : Run d0 f args v) (hd : d0 ≤ d1) : Run d1 f args v := fun d fl H hd' => h d fl H (by omega)
theorem Run.any {d0 : Nat} {f : FuncId} {args : List Value} {v : Value} (h : Run d0 f args v) {d : Nat} (hd : d0 ≤ d) : ∀ fl H, T K d f fl args H = some (v, H) := fun fl H => h d fl H hd
theorem Run.old {k d0 : Nat} {f : FuncId} {args : List Value} {v : Value} (h : ∀ fl H, T k d0 f fl args H = some (v, H)) (hk : k ≤ K) : Run d0 f args v := fun d fl H hd => tab_mono hk hd _ _ _ _ _ (h fl H)
theorem Run.old3 {d0 : Nat} {f : FuncId} {args : List Value} {v : Value} (h : ∀ fl H, T 300 d0 f fl args H = some (v, H)) : Run d0 f args v := Run.old h (by decide)
theorem Run.closed {d0 : Nat} {f : FuncId} {args : List Value} {v : Value} {F : LFn} (hb : ∀ fl H, base f fl args H = none) (hf : fns f = some (F, 3)) (h : T 300 (d0 + 1) f 0 args [] = some (v, [])) : Run (d0 + 1) f args v := Run.old3 fun fl H => tab_lift hb hf h
theorem Run.text {d0 : Nat} {f : FuncId} {args : List Value} {F : LFn} {v : Value} (hb : ∀ fl H, base f fl args H = none) (hf : fns f = some (F, 3)) (ha : args.all isSc = true) (hn : args.length ≤ F.nt) (hs : isScT v = true)
    (h : ∀ d, d0 ≤ d → wp P0 (T K d) 0 K F.body (fun r s => (r = .ret ∨ r = .normal) ∧ retQ F.results v s) ⟨initEnv args, []⟩) : Run (d0 + 1) f args v := fun d fl H hd => by
  obtain ⟨e, rfl⟩ : ∃ e, d = e + 1 := ⟨d - 1, by omega⟩
  exact tab_empty (hb fl H) hf ha hn hs (h e (by omega))
/-- Of whose result only something is told. -/
theorem Run.part {d0 : Nat} {f : FuncId} {args : List Value} {F : LFn} {R : Value → Prop} (hb : ∀ fl H, base f fl args H = none) (hf : fns f = some (F, 3)) (ha : args.all isSc = true) (hn : args.length ≤ F.nt)
    (h : wp P0 (T K d0) 0 K F.body (fun r s => (r = .ret ∨ r = .normal) ∧ ∃ v, retQ F.results v s ∧ isScT v = true ∧ R v) ⟨initEnv args, []⟩) : ∃ v, R v ∧ Run (d0 + 1) f args v := by
  obtain ⟨v, h1, h2⟩ := tab_some hb hf ha hn h
  exact ⟨v, h1, Run.old (fun fl H => h2 fl H) (Nat.le_refl _)⟩
end Go.Lev.Seat

/- Tables: of given rows and of compact functions; worlds that have only grown. -/
import Derived.Test.YtffclchaoifleaaGreatDoorLvB
set_option linter.unusedVariables false
set_option linter.unusedSimpArgs false
set_option linter.constructorNameAsVariable false

set_option linter.unusedVariables false
set_option linter.unusedSimpArgs false
namespace Go.Lev
open Go Go.RowKit

/-- Of what was there nothing has turned. -/
theorem Rel.grown {w0 w w' : World} {ρ : Nat → RB} {H : Heap} (R : Rel w0 ρ H w) (b : Below w.heap.size w w') : Rel w0 ρ H w' ∧ Ext H.length ρ w.heap H.length ρ w'.heap := by
  have x : Ext H.length ρ w.heap H.length ρ w'.heap := ⟨Nat.le_refl _, fun _ _ => ⟨Nat.le_refl _, fun _ => rfl⟩, fun _ h => .inl ⟨h, rfl⟩, b.size, fun k hk _ => b.block k hk⟩
  refine ⟨⟨?_, fun id bx hb => ?_, R.sep⟩, x⟩
  · exact ⟨b.os.trans R.below.os, b.tape.trans R.below.tape, b.output.trans R.below.output, Nat.le_trans R.below.size b.size, fun k hk => (b.block k (Nat.lt_of_lt_of_le hk R.below.size)).trans (R.below.block k hk)⟩
  · have hB := R.box id bx hb
    obtain ⟨cs, e, fr, q1, q2, q3, q4⟩ := hB.cells
    refine ⟨hB.gen, hB.row, hB.fresh, cs, e, fr, by rw [b.block _ (R.boxBlk hb)]; exact q1, q2, q3, fun i v hv => ?_⟩
    obtain ⟨v', k1, k2⟩ := q4 i v hv
    exact ⟨v', k1, k2.mono x⟩

def emptyBox : Box := { cells := [] }

/-- A block that is known to be there, of which nothing is told. -/
theorem Rel.blind {w0 w w' : World} {ρ : Nat → RB} {H : Heap} (R : Rel w0 ρ H w) (b : Below w.heap.size w w') {n : Nat} {cs : Array Value} {e : TypeId} (hn : w.heap.size ≤ n) (hh : w'.heap[n]? = some (.cells cs e (0, 0))) :
    ∃ ρ', Rel w0 ρ' (H ++ [emptyBox]) w' ∧ Ext H.length ρ w.heap (H ++ [emptyBox]).length ρ' w'.heap ∧ ρ' H.length = ⟨n, 0, cs.size, 0, 0⟩ := by
  obtain ⟨R1, _⟩ := R.grown b
  obtain ⟨ρ', hnew, hold⟩ : ∃ ρ' : Nat → RB, ρ' H.length = ⟨n, 0, cs.size, 0, 0⟩ ∧ ∀ j, j < H.length → ρ' j = ρ j := by
    refine ⟨fun j => if j = H.length then ⟨n, 0, cs.size, 0, 0⟩ else ρ j, by simp, fun j hj => ?_⟩
    have : ¬ j = H.length := by omega
    simp [this]
  have x : Ext H.length ρ w.heap (H ++ [emptyBox]).length ρ' w'.heap := by
    refine ⟨by simp, fun id hid => by rw [hold id hid]; exact ⟨Nat.le_refl _, fun _ => rfl⟩, fun id hid => ?_, b.size, fun k hk _ => b.block k hk⟩
    simp only [List.length_append, List.length_singleton] at hid
    by_cases h : id = H.length
    · subst h; rw [hnew]; exact .inr hn
    · rw [hold id (by omega)]; exact .inl ⟨by omega, rfl⟩
  have key : ∀ j d, (H ++ [emptyBox])[j]? = some d → (j < H.length ∧ H[j]? = some d) ∨ (j = H.length ∧ d = emptyBox) := fun j d hj => by
    by_cases h : j < H.length
    · rw [List.getElem?_append_left h] at hj
      exact .inl ⟨h, hj⟩
    · rw [List.getElem?_append_right (by omega)] at hj
      have hj0 : j - H.length = 0 := by
        have := (List.getElem?_eq_some_iff.1 hj).1
        simp at this
        omega
      rw [hj0] at hj
      simp at hj
      exact .inr ⟨by omega, hj.symm⟩
  refine ⟨ρ', ⟨R1.below, fun j c hj => ?_, fun i j c d hi hj hij hr => ?_⟩, x, hnew⟩
  · rcases key j c hj with ⟨h1, h2⟩ | ⟨rfl, rfl⟩
    · have hC := R.box j c h2
      obtain ⟨cs1, e1, fr, q1, q2, q3, q4⟩ := hC.cells
      refine ⟨by rw [hold j h1]; exact hC.gen, by rw [hold j h1]; exact hC.row, fun k => by rw [hold j h1]; exact hC.fresh k, cs1, e1, fr, by rw [hold j h1, b.block _ (R.boxBlk h2)]; exact q1, q2, by rw [hold j h1]; exact q3, fun i v hv => ?_⟩
      obtain ⟨v', k1, k2⟩ := q4 i v hv
      exact ⟨v', by rw [hold j h1]; exact k1, k2.mono x⟩
    · exact ⟨by rw [hnew]; rfl, by rw [hnew]; rfl, fun _ => by rw [hnew]; exact Nat.le_trans R.below.size hn, cs, e, (0, 0), by rw [hnew]; exact hh, fun _ => rfl, by rw [hnew], fun i v hv => by simp [emptyBox] at hv⟩
  · rcases key i c hi with ⟨h1, h2⟩ | ⟨rfl, rfl⟩ <;> rcases key j d hj with ⟨h3, h4⟩ | ⟨rfl, rfl⟩
    · rw [hold i h1, hold j h3]; exact R.sep i j c d h2 h4 hij hr
    · rw [hold i h1, hnew]; have := R.boxBlk h2; simp only; omega
    · rw [hold j h3, hnew]; have := R.boxBlk h4; simp only; omega
    · omega

def isScT : Value → Bool
  | .tuple vs => vs.toList.all isSc
  | v => isSc v

/-- A function that hands back no address and leaves the memory as it was. -/
def scalarFn (F : Nat → List Value → Heap → Option (Value × Heap)) : Nat → List Value → Heap → Option (Value × Heap) := fun _ args H =>
  match F H.length args H with
  | some (v, _) => if isScT v then some (v, H) else none
  | none => none

theorem gcL_sc (N : Nat) (H' : Heap) : ∀ (l : List Value) (acc : Heap) (used : List Nat), l.all isSc = true → gcL N H' acc used l = some (l, acc)
  | [], acc, used, _ => rfl
  | v :: l, acc, used, h => by
    simp only [List.all_cons, Bool.and_eq_true] at h
    simp only [gcL, gcOne, h.1, if_true, gcL_sc N H' l acc used h.2]

theorem scalarFn_valid {P : Program} {w0 : World} {F : Nat → List Value → Heap → Option (Value × Heap)} {f : FuncId} (hF : ValidAt P w0 F f) : ValidAt P w0 (scalarFn F) f := by
  refine (pureFn_valid hF).weaken fun fl args H r h => ?_
  unfold scalarFn at h
  unfold pureFn
  split at h
  · rename_i v H' hv
    split at h
    · rename_i hs
      simp only [hv]
      obtain rfl := Option.some.inj h
      unfold gcRes
      cases v with
      | tuple vs =>
        simp only [isScT] at hs
        simp only [gcL_sc _ _ _ _ _ hs]
      | _ => simp only [isScT] at hs; simp [gcOne, hs]
    · simp at h
  · simp at h

theorem scalarFn_same {F : Nat → List Value → Heap → Option (Value × Heap)} {fl : Nat} {args : List Value} {H H' : Heap} {v : Value} (h : scalarFn F fl args H = some (v, H')) : H' = H := by
  unfold scalarFn at h
  split at h
  · split at h
    · simp only [Option.some.injEq, Prod.mk.injEq] at h; exact h.2.symm
    · simp at h
  · simp at h

theorem LRel.sc {N : Nat} {ρ : Nat → RB} {h : Array Obj} {l l' : List Value} (r : LRel N ρ h l l') (hs : l.all isSc = true) : l' = l := by
  apply List.ext_getElem? fun i => ?_
  rcases Nat.lt_or_ge i l.length with hi | hi
  · obtain ⟨v', h1, h2⟩ := r.get (List.getElem?_eq_getElem hi)
    rw [h1, List.getElem?_eq_getElem hi, h2.sc (List.all_eq_true.1 hs _ (List.getElem_mem hi))]
  · rw [List.getElem?_eq_none hi, List.getElem?_eq_none (by have := r.1; omega)]

theorem VRel.ofScT {N : Nat} {ρ : Nat → RB} {h : Array Obj} {v : Value} (hs : isScT v = true) : VRel N ρ h v v := by
  cases v with
  | tuple vs =>
    simp only [isScT] at hs
    refine .tuple vs vs rfl fun i a b h1 h2 => ?_
    obtain rfl := Option.some.inj (h1.symm.trans h2)
    exact .ofSc (List.all_eq_true.1 hs _ (by
      have := List.mem_of_getElem? (l := vs.toList) (i := i) (a := a) (by simpa using h1)
      exact this))
  | _ => exact .ofSc (by simpa only [isScT] using hs)

theorem VRel.scT {N : Nat} {ρ : Nat → RB} {h : Array Obj} {v v' : Value} (r : VRel N ρ h v v') (hs : isScT v = true) : v' = v := by
  cases v with
  | tuple vs =>
    simp only [isScT] at hs
    cases r with
    | tuple _ cs' hl hc =>
      congr 1
      refine (Array.ext hl fun i h1 h2 => ?_).symm
      exact ((hc i _ _ (Array.getElem?_eq_getElem h1) (Array.getElem?_eq_getElem h2)).sc (List.all_eq_true.1 hs _ (by simp))).symm
  | _ => exact r.sc (by simpa only [isScT] using hs)

/-- A function of plain values alone: run beside an empty memory. -/
def emptyFn (F : Nat → List Value → Heap → Option (Value × Heap)) : Nat → List Value → Heap → Option (Value × Heap) := fun _ args H =>
  if args.all isSc = true then match F 0 args [] with
    | some (v, _) => if isScT v then some (v, H) else none
    | none => none
  else none

theorem emptyFn_valid {P : Program} {w0 : World} {F : Nat → List Value → Heap → Option (Value × Heap)} {f : FuncId} (hF : ValidAt P w0 F f) : ValidAt P w0 (emptyFn F) f := by
  intro fl args H v H' h
  unfold emptyFn at h
  split at h
  · rename_i ha
    split at h
    · rename_i x H1 hx
      split at h
      · rename_i hs
        simp only [Option.some.injEq, Prod.mk.injEq] at h
        obtain ⟨rfl, rfl⟩ := h
        obtain ⟨h1, h2, h3⟩ := hF 0 args [] x H1 hx
        refine ⟨h1, .refl _ _, fun ρ w args' R hL => ?_⟩
        have e := hL.sc ha
        have R0 : Rel w0 ρ [] w := ⟨R.below, fun id b hb => by simp at hb, fun i j b c hb => by simp at hb⟩
        have L0 : LRel 0 ρ w.heap args args'.toList := by
          rw [e]
          exact ⟨rfl, fun i a b h1 h2 => by
            obtain rfl := Option.some.inj (h1.symm.trans h2)
            exact .ofSc (List.all_eq_true.1 ha _ (List.mem_of_getElem? h1))⟩
        refine (h3 ρ w args' R0 L0).mono fun e w' ⟨v', ρ', he, hv, R', X⟩ => ?_
        have hb : Below w.heap.size w w' := ⟨R'.below.os.trans R.below.os.symm, R'.below.tape.trans R.below.tape.symm, R'.below.output.trans R.below.output.symm, X.size, fun k hk => X.frame k hk fun id hid => absurd hid (by simp)⟩
        obtain ⟨R2, X2⟩ := R.grown hb
        rw [hv.scT hs] at he
        exact ⟨x, ρ, he, .ofScT hs, R2, X2⟩
      · simp at h
    · simp at h
  · simp at h

theorem emptyFn_same {F : Nat → List Value → Heap → Option (Value × Heap)} {fl : Nat} {args : List Value} {H H' : Heap} {v : Value} (h : emptyFn F fl args H = some (v, H')) : H' = H := by
  unfold emptyFn at h
  split at h
  · split at h
    · split at h
      · simp only [Option.some.injEq, Prod.mk.injEq] at h; exact h.2.symm
      · simp at h
    · simp at h
  · simp at h

theorem gcOne_ext {N : Nat} {H' acc acc' : Heap} {used used' : List Nat} {v v1 : Value} (h : gcOne N H' acc used v = some (v1, acc', used')) : ∃ L, acc' = acc ++ L := by
  unfold gcOne at h
  split at h
  · simp only [Option.some.injEq, Prod.mk.injEq] at h; obtain ⟨_, rfl, _⟩ := h; exact ⟨[], by simp⟩
  · split at h
    · split at h
      · simp at h
      · split at h
        · split at h
          · simp only [Option.some.injEq, Prod.mk.injEq] at h
            obtain ⟨_, rfl, _⟩ := h
            exact ⟨_, rfl⟩
          · simp at h
        · simp at h
    · simp at h

theorem gcL_ext {N : Nat} {H' : Heap} : ∀ (l : List Value) (acc : Heap) (used : List Nat) (l1 : List Value) (acc' : Heap), gcL N H' acc used l = some (l1, acc') → ∃ L, acc' = acc ++ L
  | [], acc, used, l1, acc', h => by simp only [gcL, Option.some.injEq, Prod.mk.injEq] at h; obtain ⟨_, rfl⟩ := h; exact ⟨[], by simp⟩
  | v :: l, acc, used, l1, acc', h => by
    simp only [gcL] at h
    split at h
    · rename_i v1 acc1 used1 h1
      split at h
      · rename_i l2 acc2 h2
        simp only [Option.some.injEq, Prod.mk.injEq] at h
        obtain ⟨_, rfl⟩ := h
        obtain ⟨L1, rfl⟩ := gcOne_ext h1
        obtain ⟨L2, rfl⟩ := gcL_ext l _ _ _ _ h2
        exact ⟨L1 ++ L2, by simp⟩
      · simp at h
    · simp at h

theorem pureFn_ext {F : Nat → List Value → Heap → Option (Value × Heap)} {fl : Nat} {args : List Value} {H H' : Heap} {v : Value} (h : pureFn F fl args H = some (v, H')) : ∃ L, H' = H ++ L := by
  unfold pureFn at h
  split at h
  · unfold gcRes at h
    split at h
    · split at h
      · rename_i l acc1 hl
        simp only [Option.some.injEq, Prod.mk.injEq] at h
        obtain ⟨_, rfl⟩ := h
        exact gcL_ext _ _ _ _ _ hl
      · simp at h
    · split at h
      · rename_i v2 acc1 used hl
        simp only [Option.some.injEq, Prod.mk.injEq] at h
        obtain ⟨_, rfl⟩ := h
        exact gcOne_ext hl
      · simp at h
  · simp at h

/-- How a function's memory is kept: 0 as it is, 1 let go but for slices handed back, 2 let go, 3 let go and begun empty. -/
def modeFn : Nat → (Nat → List Value → Heap → Option (Value × Heap)) → Nat → List Value → Heap → Option (Value × Heap)
  | 0, F => F
  | 1, F => pureFn F
  | 2, F => scalarFn F
  | _, F => emptyFn F

def tabOf (P : Program) (base : Tab) (fns : FuncId → Option (LFn × Nat)) (k : Nat) : Nat → Tab
  | 0 => base
  | d + 1 => fun f fl args H => match base f fl args H with
    | some r => some r
    | none => match fns f with
      | some (F, m) => modeFn m (fun fl args H => levFn P (tabOf P base fns k d) fl k F args H) fl args H
      | none => none

theorem tab_valid {P : Program} {w0 : World} {base : Tab} {pf : FuncId → Bool} {fns : FuncId → Option (LFn × Nat)} (hb : Valid P w0 base) (hbp : PureOK base pf)
    (hf : ∀ f F m, fns f = some (F, m) → ∃ fn, P.funcs[f]? = some fn ∧ compF P pf fn = some F) (hm : ∀ f F m, fns f = some (F, m) → (pf f = true → m ≠ 0 ∧ m ≠ 1) ∧ (pf (f + 1000000) = true → m = 1)) (hsp : ∀ kf idx, splitOf P = some (kf, idx) → SplitSound P w0 kf idx) (k : Nat) : ∀ d, Valid P w0 (tabOf P base fns k d) ∧ PureOK (tabOf P base fns k d) pf
  | 0 => ⟨hb, hbp⟩
  | d + 1 => by
    obtain ⟨ih1, ih2⟩ := tab_valid hb hbp hf hm hsp k d
    refine ⟨fun f fl args H v H' h => ?_, fun f => ⟨fun hpf fl args H v H' h => ?_, fun hpf fl args H v H' h => ?_⟩⟩
    · simp only [tabOf] at h
      split at h
      · rename_i r hr
        obtain rfl := Option.some.inj h
        exact hb f fl args H v H' hr
      · split at h
        · rename_i F m hF
          obtain ⟨fn, q1, q2⟩ := hf f F m hF
          have hv := fn_sound ih1 ih2 hsp q1 q2 k
          have : ValidAt P w0 (modeFn m fun fl args H => levFn P (tabOf P base fns k d) fl k F args H) f := by
            match m with
            | 0 => exact hv
            | 1 => exact pureFn_valid hv
            | 2 => exact scalarFn_valid hv
            | _ + 3 => exact emptyFn_valid hv
          exact this fl args H v H' h
        · simp at h
    · simp only [tabOf] at h
      split at h
      · rename_i r hr
        obtain rfl := Option.some.inj h
        exact (hbp f).1 hpf fl args H v H' hr
      · split at h
        · rename_i F m hF
          have hm2 := (hm f F m hF).1 hpf
          match m, hm2, h with
          | 0, hm2, _ => exact absurd rfl hm2.1
          | 1, hm2, _ => exact absurd rfl hm2.2
          | 2, _, h => exact scalarFn_same (by simpa only [modeFn] using h)
          | _ + 3, _, h => exact emptyFn_same (by simpa only [modeFn] using h)
        · simp at h
    · simp only [tabOf] at h
      split at h
      · rename_i r hr
        obtain rfl := Option.some.inj h
        exact (hbp f).2 hpf fl args H v H' hr
      · split at h
        · rename_i F m hF
          obtain rfl := (hm f F m hF).2 hpf
          exact pureFn_ext (by simpa only [modeFn] using h)
        · simp at h

end Go.Lev

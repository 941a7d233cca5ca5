/- Running texts: the laws by which a text is run on values that are named. -/
import Derived.Test.YtffclchaoifleaaGreatDoorLvD
import Derived.Laws.BitsLemmas
import Derived.Laws.Bits64
set_option linter.unusedVariables false
set_option linter.unusedSimpArgs false
set_option linter.constructorNameAsVariable false

set_option linter.unusedVariables false
set_option linter.unusedSimpArgs false
namespace Go.Lev
open Go Go.RowKit

theorem tab_base {P : Program} {base : Tab} {fns : FuncId → Option (LFn × Nat)} {k d : Nat} {f : FuncId} {fl : Nat} {args : List Value} {H : Heap} {r : Value × Heap} (h : base f fl args H = some r) : tabOf P base fns k d f fl args H = some r := by
  cases d with
  | zero => exact h
  | succ d => simp only [tabOf, h]

theorem tab_two {P : Program} {base : Tab} {fns : FuncId → Option (LFn × Nat)} {k d : Nat} {f : FuncId} {fl : Nat} {args : List Value} {H H' : Heap} {F : LFn} {v : Value} (hb : base f fl args H = none) (hf : fns f = some (F, 2))
    (h : levFn P (tabOf P base fns k d) H.length k F args H = some (v, H')) (hs : isScT v = true) : tabOf P base fns k (d + 1) f fl args H = some (v, H) := by
  simp only [tabOf, hb, hf, modeFn, scalarFn, h, hs, if_true]

theorem notRfl {α : Sort _} {a b : α} (h : a = b) : a = b := by cases h; rfl

/-- What a text comes to. -/
def wp (P : Program) (T : Tab) (fl k : Nat) (c : LC) (Q : Ex → St → Prop) (st : St) : Prop := ∃ r st', c.run P T fl k st = some (r, st') ∧ Q r st'
/-- What operations come to. -/
def wo (P : Program) (T : Tab) (fl : Nat) (ops : List ROp) (Q : St → Prop) (st : St) : Prop := ∃ st', runOps P T fl ops st = some st' ∧ Q st'
def andO (o : Option (Value × Heap)) [Q : Inhabited (Value → Heap → Prop)] : Prop := match o with
  | some x => Q.default x.1 x.2
  | none => False
def selB (v : Value) [A : Inhabited Prop] [B : Inhabited Prop] : Prop := match v with
  | .bool true => A.default
  | .bool false => B.default
  | _ => False
def selG (w : Bool) (v : Value) [A : Inhabited Prop] [B : Inhabited Prop] : Prop := match v with
  | .bool b => if b = w then A.default else B.default
  | _ => B.default
/-- What is behind an end. -/
def thenQ (r : Ex) (A B : Prop) : Prop := match r with
  | .normal => A
  | _ => B
def exitQ (r : Ex) (id : Nat) (A B : Prop) : Prop := match r with
  | .exit j => if j = id then A else B
  | _ => B

@[congr] theorem lwp_congr {P : Program} {T : Tab} {fl k : Nat} {c c' : LC} {Q : Ex → St → Prop} {st : St} (h : c = c') : wp P T fl k c Q st = wp P T fl k c' Q st := by rw [h]
@[congr] theorem lwo_congr {P : Program} {T : Tab} {fl fl' : Nat} {ops : List ROp} {Q : St → Prop} {st : St} (h : fl = fl') : wo P T fl ops Q st = wo P T fl' ops Q st := by rw [h]
@[congr] theorem thenQ_congr {r r' : Ex} {A B : Prop} (h : r = r') : thenQ r A B = thenQ r' A B := by rw [h]
@[congr] theorem exitQ_congr {r r' : Ex} {id : Nat} {A B : Prop} (h : r = r') : exitQ r id A B = exitQ r' id A B := by rw [h]
@[congr] theorem levO_congr {env : Nat → Value} {x x' : Operand} (h : x = x') : evO env x = evO env x' := by rw [h]
@[congr] theorem lo_step_congr {P : Program} {T : Tab} {fl fl' : Nat} {env : Nat → Value} {H : Heap} {lo : LO} (h : fl = fl') : LO.step P T fl env H lo = LO.step P T fl' env H lo := by rw [h]

@[simp ↓] theorem andO_some (x : Value × Heap) (Q : Value → Heap → Prop) : @andO (some x) ⟨Q⟩ = Q x.1 x.2 := notRfl rfl
@[simp ↓] theorem selB_true (A B : Prop) : @selB (.bool true) ⟨A⟩ ⟨B⟩ = A := notRfl rfl
@[simp ↓] theorem selB_false (A B : Prop) : @selB (.bool false) ⟨A⟩ ⟨B⟩ = B := notRfl rfl
@[simp ↓] theorem selG_tt (A B : Prop) : @selG true (.bool true) ⟨A⟩ ⟨B⟩ = A := notRfl rfl
@[simp ↓] theorem selG_ff (A B : Prop) : @selG false (.bool false) ⟨A⟩ ⟨B⟩ = A := notRfl rfl
@[simp ↓] theorem selG_tf (A B : Prop) : @selG true (.bool false) ⟨A⟩ ⟨B⟩ = B := notRfl rfl
@[simp ↓] theorem selG_ft (A B : Prop) : @selG false (.bool true) ⟨A⟩ ⟨B⟩ = B := notRfl rfl
@[simp ↓] theorem selG_undef (w : Bool) (A B : Prop) : @selG w undef ⟨A⟩ ⟨B⟩ = B := notRfl rfl
theorem selG_bool (b w : Bool) (A B : Prop) : @selG w (.bool b) ⟨A⟩ ⟨B⟩ = if b = w then A else B := rfl
@[simp ↓] theorem thenQ_normal (A B : Prop) : thenQ .normal A B = A := notRfl rfl
@[simp ↓] theorem thenQ_ret (A B : Prop) : thenQ .ret A B = B := notRfl rfl
@[simp ↓] theorem thenQ_exit (id : Nat) (A B : Prop) : thenQ (.exit id) A B = B := notRfl rfl
@[simp ↓] theorem exitQ_normal (id : Nat) (A B : Prop) : exitQ .normal id A B = B := notRfl rfl
@[simp ↓] theorem exitQ_ret (id : Nat) (A B : Prop) : exitQ .ret id A B = B := notRfl rfl
@[simp ↓] theorem exitQ_same (id : Nat) (A B : Prop) : exitQ (.exit id) id A B = A := by simp [exitQ]
@[simp ↓] theorem exitQ_ne (id j : Nat) (A B : Prop) (h : j ≠ id) : exitQ (.exit j) id A B = B := by simp [exitQ, h]

theorem guard_sel (env : Nat → Value) (t : Nat) (w : Bool) (A B : Prop) : (if guardOn env (some (t, w)) = true then A else B) = @selG w (evO env (.tmp t)) ⟨A⟩ ⟨B⟩ := by
  by_cases hg : guardOn env (some (t, w)) = true
  · rw [if_pos hg]
    simp only [guardOn] at hg
    split at hg
    · rename_i b hb
      show A = @selG w (env t) ⟨A⟩ ⟨B⟩
      rw [hb, selG_bool, if_pos (by simpa using hg)]
    · simp at hg
  · rw [if_neg hg]
    simp only [guardOn] at hg
    show B = @selG w (env t) ⟨A⟩ ⟨B⟩
    split at hg
    · rename_i b hb
      rw [hb, selG_bool, if_neg (by simpa using hg)]
    · rename_i hb
      unfold selG
      split
      · rename_i b hb'
        exact absurd hb' (hb b)
      · rfl

section
variable {P : Program} {T : Tab} {fl k : Nat} {Q : Ex → St → Prop} {st : St}

theorem lwp_mono {c : LC} {Q' : Ex → St → Prop} (h : wp P T fl k c Q st) (hq : ∀ r s, Q r s → Q' r s) : wp P T fl k c Q' st :=
  let ⟨r, s, a, b⟩ := h
  ⟨r, s, a, hq r s b⟩

@[simp ↓] theorem lwp_skip : wp P T fl k .skip Q st = Q .normal st := propext ⟨fun ⟨_, _, h, q⟩ => by simp only [LC.run, Option.some.injEq, Prod.mk.injEq] at h; obtain ⟨rfl, rfl⟩ := h; exact q, fun h => ⟨_, _, rfl, h⟩⟩
@[simp ↓] theorem lwp_ret : wp P T fl k .ret Q st = Q .ret st := propext ⟨fun ⟨_, _, h, q⟩ => by simp only [LC.run, Option.some.injEq, Prod.mk.injEq] at h; obtain ⟨rfl, rfl⟩ := h; exact q, fun h => ⟨_, _, rfl, h⟩⟩
@[simp ↓] theorem lwp_exit {id : Nat} : wp P T fl k (.exit id) Q st = Q (.exit id) st := propext ⟨fun ⟨_, _, h, q⟩ => by simp only [LC.run, Option.some.injEq, Prod.mk.injEq] at h; obtain ⟨rfl, rfl⟩ := h; exact q, fun h => ⟨_, _, rfl, h⟩⟩
@[simp ↓] theorem lwp_region {ops : List ROp} : wp P T fl k (.region ops) Q st = wo P T fl ops (Q .normal) st := propext
  ⟨fun ⟨_, _, h, q⟩ => by simp only [LC.run, Option.map_eq_some_iff, Prod.mk.injEq] at h; obtain ⟨s, h, rfl, rfl⟩ := h; exact ⟨s, h, q⟩, fun ⟨s, h, q⟩ => ⟨_, _, by simp only [LC.run, h, Option.map_some], q⟩⟩
@[simp ↓] theorem lwo_nil {Q : St → Prop} : wo P T fl [] Q st = Q st := propext ⟨fun ⟨_, h, q⟩ => by simp only [runOps, Option.some.injEq] at h; subst h; exact q, fun h => ⟨_, rfl, h⟩⟩
theorem lwo_cons {Q : St → Prop} {r : ROp} {l : List ROp} : wo P T fl (r :: l) Q st = if guardOn st.env r.guard = true then @andO (r.lo.step P T fl st.env st.heap) ⟨fun v H => wo P T fl l Q ⟨put st.env r.dst v, H⟩⟩ else wo P T fl l Q ⟨put st.env r.dst undef, st.heap⟩ := by
  apply propext
  cases hg : guardOn st.env r.guard with
  | true =>
    simp only [if_true]
    constructor
    · rintro ⟨s, h, q⟩
      simp only [runOps, ROp.step, hg, if_true] at h
      cases hs : r.lo.step P T fl st.env st.heap with
      | none => rw [hs] at h; simp at h
      | some x => rw [hs] at h; exact ⟨s, h, q⟩
    · intro h
      cases hs : r.lo.step P T fl st.env st.heap with
      | none => rw [hs] at h; exact absurd h id
      | some x => rw [hs] at h; obtain ⟨s, h2, q⟩ := h; exact ⟨s, by simp only [runOps, ROp.step, hg, if_true, hs, h2], q⟩
  | false =>
    rw [if_neg (by simp)]
    exact ⟨fun ⟨s, h, q⟩ => ⟨s, by simpa [runOps, ROp.step, hg] using h, q⟩, fun ⟨s, h, q⟩ => ⟨s, by simpa [runOps, ROp.step, hg] using h, q⟩⟩
@[simp ↓] theorem lwo_dst {Q : St → Prop} {env : Nat → Value} {H : Heap} {d : Nat} {lo : LO} {l : List ROp} : wo P T fl (⟨none, some d, lo⟩ :: l) Q ⟨env, H⟩ = @andO (lo.step P T fl env H) ⟨fun v H => wo P T fl l Q ⟨upd env d v, H⟩⟩ := by
  rw [lwo_cons]; exact if_pos rfl
@[simp ↓] theorem lwo_none {Q : St → Prop} {env : Nat → Value} {H : Heap} {lo : LO} {l : List ROp} : wo P T fl (⟨none, none, lo⟩ :: l) Q ⟨env, H⟩ = @andO (lo.step P T fl env H) ⟨fun v H => wo P T fl l Q ⟨env, H⟩⟩ := by
  rw [lwo_cons]; exact if_pos rfl
@[simp ↓] theorem lwo_guard {Q : St → Prop} {env : Nat → Value} {H : Heap} {d t : Nat} {w : Bool} {lo : LO} {l : List ROp} : wo P T fl (⟨some (t, w), some d, lo⟩ :: l) Q ⟨env, H⟩ = @selG w (evO env (.tmp t)) ⟨@andO (lo.step P T fl env H) ⟨fun v H => wo P T fl l Q ⟨upd env d v, H⟩⟩⟩ ⟨wo P T fl l Q ⟨upd env d undef, H⟩⟩ := by
  rw [lwo_cons]
  exact guard_sel env t w _ _
@[simp ↓] theorem lwo_guard0 {Q : St → Prop} {env : Nat → Value} {H : Heap} {t : Nat} {w : Bool} {lo : LO} {l : List ROp} : wo P T fl (⟨some (t, w), none, lo⟩ :: l) Q ⟨env, H⟩ = @selG w (evO env (.tmp t)) ⟨@andO (lo.step P T fl env H) ⟨fun v H => wo P T fl l Q ⟨env, H⟩⟩⟩ ⟨wo P T fl l Q ⟨env, H⟩⟩ := by
  rw [lwo_cons]
  exact guard_sel env t w _ _
@[simp ↓] theorem lwp_seq {a b : LC} : wp P T fl k (.seq a b) Q st = wp P T fl k a (fun r s => thenQ r (wp P T fl k b Q s) (Q r s)) st := by
  apply propext
  constructor
  · rintro ⟨r, s, h, q⟩
    simp only [LC.run] at h
    cases ha : a.run P T fl k st with
    | none => rw [ha] at h; simp at h
    | some x =>
      obtain ⟨r1, s1⟩ := x
      rw [ha] at h
      refine ⟨r1, s1, ha, ?_⟩
      cases r1 with
      | normal => exact ⟨r, s, h, q⟩
      | ret => simp at h; obtain ⟨rfl, rfl⟩ := h; exact q
      | exit id => simp at h; obtain ⟨rfl, rfl⟩ := h; exact q
  · rintro ⟨r, s, h, q⟩
    cases r with
    | normal => obtain ⟨r2, s2, h2, q2⟩ := q; exact ⟨r2, s2, by simp only [LC.run, h, h2], q2⟩
    | ret => exact ⟨_, _, by simp only [LC.run, h], q⟩
    | exit id => exact ⟨_, _, by simp only [LC.run, h], q⟩
@[simp ↓] theorem lwp_cond {env : Nat → Value} {H : Heap} {c : Operand} {a b : LC} : wp P T fl k (.cond c a b) Q ⟨env, H⟩ = @selB (evO env c) ⟨wp P T fl k a Q ⟨env, H⟩⟩ ⟨wp P T fl k b Q ⟨env, H⟩⟩ := by
  apply propext
  constructor
  · rintro ⟨r, s, h, q⟩
    simp only [LC.run] at h
    split at h
    · rename_i t ht
      rw [ht]
      cases t with
      | true => exact ⟨r, s, by simpa using h, q⟩
      | false => exact ⟨r, s, by simpa using h, q⟩
    · simp at h
  · intro h
    unfold selB at h
    split at h
    · rename_i ht; obtain ⟨r, s, h, q⟩ := h; exact ⟨r, s, by simp [LC.run, ht, h], q⟩
    · rename_i ht; obtain ⟨r, s, h, q⟩ := h; exact ⟨r, s, by simp [LC.run, ht, h], q⟩
    · exact absurd h id
@[simp ↓] theorem lwp_block {id : Nat} {c : LC} : wp P T fl k (.block id c) Q st = wp P T fl k c (fun r s => exitQ r id (Q .normal s) (Q r s)) st := by
  apply propext
  constructor
  · rintro ⟨r, s, h, q⟩
    simp only [LC.run] at h
    split at h
    · rename_i id' s' hc
      refine ⟨_, s', hc, ?_⟩
      by_cases e : id' = id
      · simp [e] at h ⊢; obtain ⟨rfl, rfl⟩ := h; exact q
      · simp [e] at h ⊢; obtain ⟨rfl, rfl⟩ := h; exact q
    · rename_i hc
      refine ⟨r, s, h, ?_⟩
      cases r with
      | exit id' => exact absurd h (hc id' s)
      | _ => exact q
  · rintro ⟨r, s, h, q⟩
    cases r with
    | exit id' =>
      by_cases e : id' = id
      · simp [e] at q; exact ⟨_, s, by simp [LC.run, h, e], q⟩
      · simp [e] at q; exact ⟨_, s, by simp [LC.run, h, e], q⟩
    | normal => exact ⟨_, s, by simp [LC.run, h], q⟩
    | ret => exact ⟨_, s, by simp [LC.run, h], q⟩

/-- What holds between two parts. -/
theorem lwp_mid {a b : LC} (M : St → Prop) (ha : wp P T fl k a (fun r s => thenQ r (M s) (Q r s)) st) (hb : ∀ env H, M ⟨env, H⟩ → wp P T fl k b Q ⟨env, H⟩) : wp P T fl k (.seq a b) Q st := by
  rw [lwp_seq]
  refine lwp_mono ha fun r s h => ?_
  cases r with
  | normal => exact hb s.env s.heap h
  | ret => exact h
  | exit id => exact h
theorem lwp_seq_of {a b : LC} (h : wp P T fl k a (fun r s => thenQ r (wp P T fl k b Q s) (Q r s)) st) : wp P T fl k (.seq a b) Q st := by rw [lwp_seq]; exact h
theorem lwp_block_of {id : Nat} {c : LC} (h : wp P T fl k c (fun r s => exitQ r id (Q .normal s) (Q r s)) st) : wp P T fl k (.block id c) Q st := by rw [lwp_block]; exact h

/-- A loop: what holds at each round's start, what gets less, what holds behind. -/
theorem lwp_loop {c : LC} (I : St → Prop) (m : St → Nat) (step : ∀ st, I st → m st < k → wp P T fl k c (fun r s => thenQ r (I s ∧ m s < m st) (Q r s)) st) (h : I st) (hm : m st < k) : wp P T fl k (.loop c) Q st := by
  suffices hh : ∀ (j : Nat) st, I st → m st < j → j ≤ k → ∃ r s, iter (c.run P T fl k) j st = some (r, s) ∧ Q r s by
    obtain ⟨r, s, h1, h2⟩ := hh k st h hm (Nat.le_refl _)
    exact ⟨r, s, by simp only [LC.run, h1], h2⟩
  intro j
  induction j with
  | zero => intro st _ hm; omega
  | succ j ih =>
    intro st hI hm hj
    obtain ⟨r, s, h1, h2⟩ := step st hI (by omega)
    cases r with
    | normal =>
      obtain ⟨r', s', h3, h4⟩ := ih s h2.1 (by have := h2.2; omega) (by omega)
      exact ⟨r', s', by simp only [iter, h1, h3], h4⟩
    | ret => exact ⟨_, _, by simp only [iter, h1], h2⟩
    | exit id => exact ⟨_, _, by simp only [iter, h1], h2⟩
end

@[simp ↓] theorem levO_const (env : Nat → Value) (v : Value) : evO env (.const v) = v := notRfl rfl
@[simp ↓] theorem levO_func (env : Nat → Value) (f : FuncId) : evO env (.func f) = .func (.func f) #[] #[] := notRfl rfl
@[simp ↓] theorem levO_same (env : Nat → Value) (d : Nat) (v : Value) : evO (upd env d v) (.tmp d) = v := by simp [evO, upd]
@[simp ↓] theorem levO_ne (env : Nat → Value) (d t : Nat) (v : Value) (h : t ≠ d) : evO (upd env d v) (.tmp t) = evO env (.tmp t) := by simp [evO, upd, h]
@[simp ↓] theorem levO_init (args : List Value) (t : Nat) : evO (initEnv args) (.tmp t) = args.getD t undef := notRfl rfl


section
variable {P : Program} {T : Tab} {fl : Nat} {env : Nat → Value} {H : Heap}
/-- Of one value. -/
def on1 (v : Value) (f : Value → Option (Value × Heap)) : Option (Value × Heap) := f v
@[simp ↓] theorem st_mv (x : Operand) : LO.step P T fl env H (.mv x) = some (evO env x, H) := notRfl rfl
def nilchkV (H : Heap) : Value → Option (Value × Heap)
  | .pointer (some a) => some (.pointer (some a), H)
  | _ => none
@[simp ↓] theorem st_nilchk (x : Operand) : LO.step P T fl env H (.nilchk x) = nilchkV H (evO env x) := notRfl rfl
@[simp ↓] theorem nilchkV_ptr (a : Addr) : nilchkV H (.pointer (some a)) = some (.pointer (some a), H) := notRfl rfl
def pickV (H : Heap) (c a b : Value) : Option (Value × Heap) := match c with
  | .bool true => some (a, H)
  | .bool false => some (b, H)
  | _ => none
@[simp ↓] theorem st_pick (c a b : Operand) : LO.step P T fl env H (.pick c a b) = pickV H (evO env c) (evO env a) (evO env b) := by
  simp only [LO.step, pickV]
  cases evO env c with
  | bool t => cases t <;> rfl
  | _ => rfl
@[simp] theorem pickV_true (a b : Value) : pickV H (.bool true) a b = some (a, H) := notRfl rfl
@[simp] theorem pickV_false (a b : Value) : pickV H (.bool false) a b = some (b, H) := notRfl rfl
def mapH (H : Heap) (o : Option Value) : Option (Value × Heap) := match o with
  | some v => some (v, H)
  | none => none
@[simp] theorem mapH_some (v : Value) : mapH H (some v) = some (v, H) := notRfl rfl
theorem map_mapH (o : Option Value) : o.map (·, H) = mapH H o := by cases o <;> rfl
@[simp ↓] theorem st_bin (op : BinOp) (x y : Operand) : LO.step P T fl env H (.bin op x y) = mapH H (binV op (evO env x) (evO env y)) := notRfl (map_mapH _)
@[simp ↓] theorem st_binB (op : BinOp) (x y : Operand) : LO.step P T fl env H (.binB op x y) = mapH H (Lev.binB op (evO env x) (evO env y)) := notRfl (map_mapH _)
@[simp ↓] theorem st_un (op : UnOp) (x : Operand) : LO.step P T fl env H (.un op x) = mapH H (unV op (evO env x)) := notRfl (map_mapH _)
def convIV (k : IntKind) : Value → Option Value
  | .int _ n => some (.int k (k.wrap n))
  | _ => none
@[simp ↓] theorem st_convI (k : IntKind) (x : Operand) : LO.step P T fl env H (.convI k x) = mapH H (convIV k (evO env x)) := by
  simp only [LO.step, convIV]; cases evO env x <;> rfl
@[simp] theorem convIV_int (k j : IntKind) (n : Int) : convIV k (.int j n) = some (.int k (k.wrap n)) := notRfl rfl
def convSV : Value → Option Value
  | .string s => some (.string s)
  | _ => none
@[simp ↓] theorem st_convS (x : Operand) : LO.step P T fl env H (.convS x) = mapH H (convSV (evO env x)) := by
  simp only [LO.step, convSV]; cases evO env x <;> rfl
@[simp] theorem convSV_str (s : ByteArray) : convSV (.string s) = some (.string s) := notRfl rfl
def nilV (k : Nat) (neg : Bool) (v : Value) : Option Value := if isKind k v then (isNilV v).map fun b => .bool (if neg then !b else b) else none
@[simp ↓] theorem st_isNil (k : Nat) (neg : Bool) (x : Operand) : LO.step P T fl env H (.isNil k neg x) = mapH H (nilV k neg (evO env x)) := by
  simp only [LO.step, nilV]
  split
  · cases isNilV (evO env x) <;> rfl
  · rfl
@[simp] theorem nilV_nilIface (neg : Bool) : nilV 1 neg .nilIface = some (.bool (!neg)) := by cases neg <;> rfl
@[simp] theorem nilV_iface (neg : Bool) (t : TypeId) (v : Value) : nilV 1 neg (.iface t v) = some (.bool neg) := by cases neg <;> rfl
@[simp] theorem nilV_nilPtr (neg : Bool) : nilV 0 neg (.pointer none) = some (.bool (!neg)) := by cases neg <;> rfl
@[simp] theorem nilV_ptr (neg : Bool) (a : Addr) : nilV 0 neg (.pointer (some a)) = some (.bool neg) := by cases neg <;> rfl
def eqAV (offs : List (Nat × Nat)) (neg : Bool) : Value → Value → Option Value
  | .agg xs, .agg ys => (eqAll xs.toList ys.toList offs).map fun b => .bool (if neg then !b else b)
  | _, _ => none
@[simp ↓] theorem st_eqA (offs : List (Nat × Nat)) (neg : Bool) (x y : Operand) : LO.step P T fl env H (.eqA offs neg x y) = mapH H (eqAV offs neg (evO env x) (evO env y)) := by
  simp only [LO.step]
  cases evO env x <;> cases evO env y <;> simp only [eqAV, mapH]
  rename_i xs ys
  cases eqAll xs.toList ys.toList offs <;> rfl
def b2sV (H : Heap) : Value → Option Value
  | .slice none _ _ => some (.string ⟨#[]⟩)
  | .slice (some a) n _ => match rdN H a n with
    | some cs => (bytesOf cs).map fun bs => .string ⟨bs.toArray⟩
    | none => none
  | _ => none
@[simp ↓] theorem st_b2s (x : Operand) : LO.step P T fl env H (.b2s x) = mapH H (b2sV H (evO env x)) := by
  simp only [LO.step]
  cases evO env x with
  | slice a n c =>
    cases a with
    | none => rfl
    | some a =>
      simp only [b2sV]
      cases rdN H a n with
      | none => rfl
      | some cs => cases h : bytesOf cs <;> simp [mapH, h]
  | _ => rfl
@[simp ↓] theorem st_alloc (z : List Value) : LO.step P T fl env H (.alloc z) = some (.pointer (some ⟨H.length, 0, some 0⟩), H ++ [{ cells := z }]) := notRfl rfl
@[simp ↓] theorem st_box (x : Operand) : LO.step P T fl env H (.box x) = some (.pointer (some ⟨H.length, 0, some 0⟩), H ++ [{ cells := (evO env x).cells.toList }]) := notRfl rfl
def fillV (z : List Value) (ps : List (Nat × Nat × Value)) : Option Value := (fillL z ps).map fun cs => .agg cs.toArray
@[simp ↓] theorem st_build (z : List Value) (ps : List (Nat × Nat × Operand)) : LO.step P T fl env H (.build z ps) = mapH H (fillV z (evParts env ps)) := by
  simp only [LO.step, fillV]; cases fillL z (evParts env ps) <;> rfl
@[simp] theorem evParts_nil : evParts env [] = [] := notRfl rfl
@[simp] theorem evParts_cons (o s : Nat) (x : Operand) (l : List (Nat × Nat × Operand)) : evParts env ((o, s, x) :: l) = (o, s, evO env x) :: evParts env l := notRfl rfl
@[congr] theorem evParts_congr {ps : List (Nat × Nat × Operand)} {env' : Nat → Value} (h : env = env') : evParts env ps = evParts env' ps := by rw [h]
def rowV (H : Heap) (esz len : Nat) (o : Option (List Value)) : Option (Value × Heap) := match o with
  | some cs => some (.slice (some ⟨H.length, 0, some 0⟩) len esz, H ++ [{ cells := cs, gen := 0, row := esz }])
  | none => none
@[simp ↓] theorem st_row (esz len : Nat) (z : List Value) (ps : List (Nat × Nat × Operand)) : LO.step P T fl env H (.row esz len z ps) = rowV H esz len (fillL z (evParts env ps)) := by
  simp only [LO.step]; cases fillL z (evParts env ps) <;> rfl
@[simp] theorem rowV_some (esz len : Nat) (cs : List Value) : rowV H esz len (some cs) = some (.slice (some ⟨H.length, 0, some 0⟩) len esz, H ++ [{ cells := cs, gen := 0, row := esz }]) := notRfl rfl
def rowMV (len : Nat) (o : Option (List Value)) : Option Value := match o with
  | some cs => some (marker len cs)
  | none => none
@[simp ↓] theorem st_rowM (len : Nat) (z : List Value) (ps : List (Nat × Nat × Operand)) : LO.step P T fl env H (.rowM len z ps) = mapH H (rowMV len (fillL z (evParts env ps))) := by
  simp only [LO.step]; cases fillL z (evParts env ps) <;> rfl
@[simp] theorem rowMV_some (len : Nat) (cs : List Value) : rowMV len (some cs) = some (marker len cs) := notRfl rfl
def load1V (H : Heap) : Value → Option Value
  | .pointer (some a) => rd1 H a
  | _ => none
@[simp ↓] theorem st_load1 (a : Operand) : LO.step P T fl env H (.load1 a) = mapH H (load1V H (evO env a)) := by
  simp only [LO.step]
  cases evO env a with
  | pointer p => cases p with
    | none => rfl
    | some a => exact map_mapH _
  | _ => rfl
@[simp] theorem load1V_ptr (a : Addr) : load1V H (.pointer (some a)) = rd1 H a := notRfl rfl
def loadNV (n : Nat) (H : Heap) : Value → Option Value
  | .pointer (some a) => (rdN H a n).map fun cs => .agg cs.toArray
  | _ => none
@[simp ↓] theorem st_loadN (n : Nat) (a : Operand) : LO.step P T fl env H (.loadN n a) = mapH H (loadNV n H (evO env a)) := by
  simp only [LO.step]
  cases evO env a with
  | pointer p => cases p with
    | none => rfl
    | some a => simp only [loadNV]; cases rdN H a n <;> rfl
  | _ => rfl
@[simp] theorem loadNV_ptr (n : Nat) (a : Addr) : loadNV n H (.pointer (some a)) = (rdN H a n).map fun cs => .agg cs.toArray := notRfl rfl
def storeV (fl n : Nat) (H : Heap) (p x : Value) : Option (Value × Heap) := match p with
  | .pointer (some a) => if x.cells.size = n then (wrN fl H a x.cells.toList).map fun H' => (undef, H') else none
  | _ => none
@[simp ↓] theorem st_store (n : Nat) (a x : Operand) : LO.step P T fl env H (.store n a x) = storeV fl n H (evO env a) (evO env x) := notRfl rfl
def fadV (off : Nat) : Value → Option Value
  | .pointer (some a) => some (.pointer (some ⟨a.block, a.off + off, a.spot⟩))
  | _ => none
@[simp ↓] theorem st_fad (off : Nat) (a : Operand) : LO.step P T fl env H (.fad off a) = mapH H (fadV off (evO env a)) := by
  simp only [LO.step]
  cases evO env a with
  | pointer p => cases p <;> rfl
  | _ => rfl
@[simp] theorem fadV_ptr (off b o : Nat) (s : Option Nat) : fadV off (.pointer (some ⟨b, o, s⟩)) = some (.pointer (some ⟨b, o + off, s⟩)) := notRfl rfl
def iadAV (len esz : Nat) : Value → Value → Option Value
  | .pointer (some a), .int _ n => if 0 ≤ n ∧ n < (len : Int) then some (.pointer (some ⟨a.block, a.off + n.toNat * esz, a.spot⟩)) else none
  | _, _ => none
@[simp ↓] theorem st_iadA (len esz : Nat) (a i : Operand) : LO.step P T fl env H (.iadA len esz a i) = mapH H (iadAV len esz (evO env a) (evO env i)) := by
  simp only [LO.step]
  cases evO env a with
  | pointer p => cases p with
    | none => rfl
    | some a => cases evO env i <;> simp only [iadAV, mapH]; split <;> rfl
  | _ => rfl
def iadSV (esz : Nat) : Value → Value → Option Value
  | .slice (some a) len _, .int _ n => if 0 ≤ n ∧ n < (len : Int) then some (.pointer (some ⟨a.block, a.off + n.toNat * esz, a.spot⟩)) else none
  | _, _ => none
@[simp ↓] theorem st_iadS (esz : Nat) (s i : Operand) : LO.step P T fl env H (.iadS esz s i) = mapH H (iadSV esz (evO env s) (evO env i)) := by
  simp only [LO.step]
  cases evO env s with
  | slice p n c => cases p with
    | none => rfl
    | some a => cases evO env i <;> simp only [iadSV, mapH]; split <;> rfl
  | _ => rfl
def fld1V (off : Nat) : Value → Option Value
  | .agg cs => cs[off]?
  | _ => none
@[simp ↓] theorem st_fld1 (off : Nat) (x : Operand) : LO.step P T fl env H (.fld1 off x) = mapH H (fld1V off (evO env x)) := by
  simp only [LO.step]
  cases evO env x with
  | agg cs => exact map_mapH _
  | _ => rfl
@[simp] theorem fld1V_agg (off : Nat) (cs : Array Value) : fld1V off (.agg cs) = cs[off]? := notRfl rfl
def fldNV (off n : Nat) : Value → Option Value
  | .agg cs => some (.agg (cs.extract off (off + n)))
  | _ => none
@[simp ↓] theorem st_fldN (off n : Nat) (x : Operand) : LO.step P T fl env H (.fldN off n x) = mapH H (fldNV off n (evO env x)) := by
  simp only [LO.step]; cases evO env x <;> rfl
def ix1V (len : Nat) : Value → Value → Option Value
  | .agg cs, .int _ n => if 0 ≤ n ∧ n < (len : Int) then cs[n.toNat]? else none
  | _, _ => none
@[simp ↓] theorem st_ix1 (len : Nat) (x i : Operand) : LO.step P T fl env H (.ix1 len x i) = mapH H (ix1V len (evO env x) (evO env i)) := by
  simp only [LO.step]
  cases evO env x <;> cases evO env i <;> simp only [ix1V] <;> try rfl
  split
  · exact map_mapH _
  · rfl
def ixSV : Value → Value → Option Value
  | .string s, .int _ n => if 0 ≤ n then (s.data.toList[n.toNat]?).map fun b => .int .u8 b.toNat else none
  | _, _ => none
@[simp ↓] theorem st_ixS (x i : Operand) : LO.step P T fl env H (.ixS x i) = mapH H (ixSV (evO env x) (evO env i)) := by
  simp only [LO.step]
  cases evO env x <;> cases evO env i <;> simp only [ixSV] <;> try rfl
  rename_i s k n
  split
  · cases s.data.toList[n.toNat]? <;> rfl
  · rfl
def slcTV (x : Value) (lo hi : Option Value) : Option Value := match x with
  | .string s => match (match lo with | none => some 0 | some (.int _ n) => if 0 ≤ n then some n.toNat else none | _ => none), (match hi with | none => some s.size | some (.int _ n) => if 0 ≤ n then some n.toNat else none | _ => none) with
    | some l, some h => if l ≤ h ∧ h ≤ s.size then some (.string (s.extract l h)) else none
    | _, _ => none
  | _ => none
@[simp ↓] theorem st_slcT (x : Operand) (lo hi : Option Operand) : LO.step P T fl env H (.slcT x lo hi) = mapH H (slcTV (evO env x) (lo.map (evO env)) (hi.map (evO env))) := by
  simp only [LO.step, slcTV]
  cases evO env x <;> try rfl
  rename_i s
  have e : ∀ d (o : Option Operand), bnd env d o = (match o.map (evO env) with | none => some d | some (.int _ n) => if 0 ≤ n then some n.toNat else none | _ => none) := fun d o => by
    cases o with
    | none => rfl
    | some x => simp only [bnd, Option.map_some]; cases evO env x <;> rfl
  simp only [e]
  split
  · rename_i l h _ _
    simp only [*]
    split <;> rfl
  · rename_i hh
    split
    · rename_i l h e1 e2; exact absurd e2 (hh l h e1)
    · rfl
def extV (i : Nat) : Value → Option Value
  | .tuple vs => vs[i]?
  | _ => none
@[simp ↓] theorem st_ext (x : Operand) (i : Nat) : LO.step P T fl env H (.ext x i) = mapH H (extV i (evO env x)) := by
  simp only [LO.step]
  cases evO env x with
  | tuple cs => exact map_mapH _
  | _ => rfl
@[simp] theorem extV_tuple (i : Nat) (cs : Array Value) : extV i (.tuple cs) = cs[i]? := notRfl rfl
def lenTV : Value → Option Value
  | .string s => some (.int .i64 s.size)
  | _ => none
@[simp ↓] theorem st_lenT (x : Operand) : LO.step P T fl env H (.lenT x) = mapH H (lenTV (evO env x)) := by
  simp only [LO.step]; cases evO env x <;> rfl
@[simp] theorem lenTV_str (s : ByteArray) : lenTV (.string s) = some (.int .i64 s.size) := notRfl rfl
def lenSV : Value → Option Value
  | .slice _ n _ => some (.int .i64 n)
  | _ => none
@[simp ↓] theorem st_lenS (x : Operand) : LO.step P T fl env H (.lenS x) = mapH H (lenSV (evO env x)) := by
  simp only [LO.step]; cases evO env x <;> rfl
@[simp] theorem lenSV_slice (a : Option Addr) (n c : Nat) : lenSV (.slice a n c) = some (.int .i64 n) := notRfl rfl
@[simp ↓] theorem st_lenA (n : Nat) : LO.step P T fl env H (.lenA n) = some (.int .i64 n, H) := notRfl rfl
@[simp ↓] theorem st_mkI (t : TypeId) (x : Operand) : LO.step P T fl env H (.mkI t x) = some (.iface t (evO env x), H) := notRfl rfl
@[simp ↓] theorem st_mkf (fn : FuncId) (a b : List Operand) : LO.step P T fl env H (.mkf fn a b) = some (.func (.func fn) (a.map (evO env)).toArray (b.map (evO env)).toArray, H) := notRfl rfl
@[simp ↓] theorem st_app (esz bytes : Nat) (s x : Operand) : LO.step P T fl env H (.app esz bytes s x) = appV fl esz bytes H (evO env s) (evO env x) := notRfl rfl
@[simp ↓] theorem st_call (f : FuncId) (args : List Operand) : LO.step P T fl env H (.call (.func f) args) = T f fl (args.map (evO env)) H := by
  simp [LO.step, evO]
end

/-- What the results are. -/
def retQ (l : List LRes) (v : Value) (s : St) : Prop := (evAll s l).map packRes = some v
@[congr] theorem retQ_congr {l : List LRes} {v v' : Value} {s : St} (h : v = v') : retQ l v s = retQ l v' s := by rw [h]
@[simp ↓] theorem retQ_nil (v : Value) (s : St) : retQ [] v s = (Value.tuple #[] = v) := by simp [retQ, evAll, packRes]
@[simp ↓] theorem retQ_one (t : Nat) (v : Value) (env : Nat → Value) (H : Heap) : retQ [.tmp t] v ⟨env, H⟩ = (evO env (.tmp t) = v) := by simp [retQ, evAll, evRes, packRes, evO]
@[simp ↓] theorem retQ_two (t u : Nat) (v : Value) (env : Nat → Value) (H : Heap) : retQ [.tmp t, .tmp u] v ⟨env, H⟩ = (Value.tuple #[evO env (.tmp t), evO env (.tmp u)] = v) := by simp [retQ, evAll, evRes, packRes, evO]
@[simp ↓] theorem retQ_cell (t : Nat) (v : Value) (env : Nat → Value) (H : Heap) : retQ [.cell1 t] v ⟨env, H⟩ = (∃ a x, evO env (.tmp t) = .pointer (some a) ∧ rd1 H a = some x ∧ x = v) := by
  simp only [retQ, evAll, evRes, evO]
  cases h : env t with
  | pointer p =>
    cases p with
    | none => simp
    | some a => cases h2 : rd1 H a <;> simp [packRes, h2]
  | _ => simp
@[simp ↓] theorem retQ_cellN (t n : Nat) (v : Value) (env : Nat → Value) (H : Heap) : retQ [.cellN t n] v ⟨env, H⟩ = (∃ a x, evO env (.tmp t) = .pointer (some a) ∧ rdN H a n = some x ∧ .agg x.toArray = v) := by
  simp only [retQ, evAll, evRes, evO]
  cases h : env t with
  | pointer p =>
    cases p with
    | none => simp
    | some a => cases h2 : rdN H a n <;> simp [packRes, h2]
  | _ => simp

/-- A function's text: what it hands back. -/
theorem lev_of_wp {P : Program} {T : Tab} {fl k : Nat} {F : LFn} {args : List Value} {H : Heap} {v : Value} (hn : args.length ≤ F.nt)
    (h : wp P T fl k F.body (fun r s => (r = .ret ∨ r = .normal) ∧ retQ F.results v s) ⟨initEnv args, H⟩) : ∃ H', levFn P T fl k F args H = some (v, H') := by
  obtain ⟨r, s, h1, h2, h3⟩ := h
  obtain ⟨l, h4, h5⟩ := Option.map_eq_some_iff.1 h3
  subst h5
  refine ⟨s.heap, ?_⟩
  unfold levFn
  rw [if_pos hn, h1]
  rcases h2 with rfl | rfl <;> simp only [h4, Option.map_some]

/-- A function that hands back plain values. -/
theorem tab_scalar {P : Program} {base : Tab} {fns : FuncId → Option (LFn × Nat)} {k d : Nat} {f : FuncId} {fl : Nat} {args : List Value} {H : Heap} {F : LFn} {v : Value} (hb : base f fl args H = none) (hf : fns f = some (F, 2)) (hn : args.length ≤ F.nt) (hs : isScT v = true)
    (h : wp P (tabOf P base fns k d) H.length k F.body (fun r s => (r = .ret ∨ r = .normal) ∧ retQ F.results v s) ⟨initEnv args, H⟩) : tabOf P base fns k (d + 1) f fl args H = some (v, H) := by
  obtain ⟨H', h1⟩ := lev_of_wp hn h
  exact tab_two hb hf h1 hs

/-- A function of plain values, run beside an empty memory. -/
theorem tab_empty {P : Program} {base : Tab} {fns : FuncId → Option (LFn × Nat)} {k d : Nat} {f : FuncId} {fl : Nat} {args : List Value} {H : Heap} {F : LFn} {v : Value} (hb : base f fl args H = none) (hf : fns f = some (F, 3)) (ha : args.all isSc = true) (hn : args.length ≤ F.nt) (hs : isScT v = true)
    (h : wp P (tabOf P base fns k d) 0 k F.body (fun r s => (r = .ret ∨ r = .normal) ∧ retQ F.results v s) ⟨initEnv args, []⟩) : tabOf P base fns k (d + 1) f fl args H = some (v, H) := by
  obtain ⟨H', h1⟩ := lev_of_wp hn h
  simp only [tabOf, hb, hf, modeFn, emptyFn, h1, ha, hs, if_true]

/-- Beside any memory, if beside the empty one. -/
theorem tab_lift {P : Program} {base : Tab} {fns : FuncId → Option (LFn × Nat)} {k d : Nat} {f : FuncId} {fl : Nat} {args : List Value} {H : Heap} {F : LFn} {v : Value} (hb : ∀ fl H, base f fl args H = none) (hf : fns f = some (F, 3))
    (h : tabOf P base fns k (d + 1) f 0 args [] = some (v, [])) : tabOf P base fns k (d + 1) f fl args H = some (v, H) := by
  simp only [tabOf, hb, hf, modeFn, emptyFn] at h ⊢
  split at h
  · rename_i ha
    split at h
    · rename_i x y hx
      split at h
      · rename_i hs
        simp only [Option.some.injEq, Prod.mk.injEq] at h
        rw [if_pos ha, if_pos hs, h.1]
      · simp at h
    · simp at h
  · simp at h

/-- At most j rounds of a loop. -/
def wpi (P : Program) (T : Tab) (fl k j : Nat) (c : LC) (Q : Ex → St → Prop) (st : St) : Prop := ∃ r s, iter (c.run P T fl k) j st = some (r, s) ∧ Q r s
@[congr] theorem wpi_congr {P : Program} {T : Tab} {fl k j j' : Nat} {c : LC} {Q : Ex → St → Prop} {st : St} (h : j = j') : wpi P T fl k j c Q st = wpi P T fl k j' c Q st := by rw [h]
theorem loop_wpi {P : Program} {T : Tab} {fl k : Nat} {c : LC} {Q : Ex → St → Prop} {st : St} : wp P T fl k (.loop c) Q st = wpi P T fl k k c Q st := notRfl rfl
theorem wpi_step {P : Program} {T : Tab} {fl k j : Nat} {c : LC} {Q : Ex → St → Prop} {st : St} (h : j ≠ 0) : wpi P T fl k j c Q st = wp P T fl k c (fun r s => thenQ r (wpi P T fl k (j - 1) c Q s) (Q r s)) st := by
  obtain ⟨i, rfl⟩ : ∃ i, j = i + 1 := ⟨j - 1, by omega⟩
  apply propext
  constructor
  · rintro ⟨r, s, h1, h2⟩
    simp only [iter] at h1
    cases hc : c.run P T fl k st with
    | none => rw [hc] at h1; simp at h1
    | some x =>
      obtain ⟨r1, s1⟩ := x
      rw [hc] at h1
      refine ⟨r1, s1, hc, ?_⟩
      cases r1 with
      | normal => exact ⟨r, s, h1, h2⟩
      | ret => simp at h1; obtain ⟨rfl, rfl⟩ := h1; exact h2
      | exit id => simp at h1; obtain ⟨rfl, rfl⟩ := h1; exact h2
  · rintro ⟨r, s, h1, h2⟩
    cases r with
    | normal => obtain ⟨r2, s2, h3, h4⟩ := h2; exact ⟨r2, s2, by simp only [iter, h1]; exact h3, h4⟩
    | ret => exact ⟨_, _, by simp only [iter, h1], h2⟩
    | exit id => exact ⟨_, _, by simp only [iter, h1], h2⟩

/-- A function of plain values of whose result only something is told. -/
theorem tab_some {P : Program} {base : Tab} {fns : FuncId → Option (LFn × Nat)} {k d : Nat} {f : FuncId} {args : List Value} {F : LFn} {R : Value → Prop} (hb : ∀ fl H, base f fl args H = none) (hf : fns f = some (F, 3)) (ha : args.all isSc = true) (hn : args.length ≤ F.nt)
    (h : wp P (tabOf P base fns k d) 0 k F.body (fun r s => (r = .ret ∨ r = .normal) ∧ ∃ v, retQ F.results v s ∧ isScT v = true ∧ R v) ⟨initEnv args, []⟩) : ∃ v, R v ∧ ∀ fl H, tabOf P base fns k (d + 1) f fl args H = some (v, H) := by
  obtain ⟨r, s, h1, h2, v, h3, h4, h5⟩ := h
  exact ⟨v, h5, fun fl H => tab_empty (hb fl H) hf ha hn h4 ⟨r, s, h1, h2, h3⟩⟩

end Go.Lev


set_option linter.unusedVariables false
set_option linter.unusedSimpArgs false
namespace Go.Lev
open Go

theorem bytes_len (b : ByteArray) : b.data.toList.length = b.size := by
  cases b with
  | mk d => show d.toList.length = d.size; exact Array.length_toList
theorem bytes_loop (b : ByteArray) : ∀ (n i : Nat) (r : List UInt8), b.size - i = n → ByteArray.toList.loop b i r = r.reverse ++ b.data.toList.drop i
  | 0, i, r, h => by
    rw [ByteArray.toList.loop]
    have h1 : ¬ i < b.size := by omega
    have h2 : b.data.toList.length ≤ i := by have := bytes_len b; omega
    rw [if_neg h1, List.drop_eq_nil_of_le h2, List.append_nil]
  | n + 1, i, r, h => by
    rw [ByteArray.toList.loop]
    have h1 : i < b.size := by omega
    have h2 : i < b.data.toList.length := by have := bytes_len b; omega
    rw [if_pos h1, bytes_loop b n (i + 1) _ (by omega), List.drop_eq_getElem_cons h2]
    simp [ByteArray.get!, h1]
theorem bytes_list (b : ByteArray) : b.toList = b.data.toList := by
  unfold ByteArray.toList
  rw [bytes_loop b _ 0 [] rfl]
  simp
/-- A text of bytes. -/
abbrev strV (l : List UInt8) : Value := .string ⟨l.toArray⟩
theorem strV_of (s : ByteArray) : Value.string s = strV s.data.toList := rfl
@[simp] theorem bytes_mk (l : List UInt8) : (⟨l.toArray⟩ : ByteArray).toList = l := by rw [bytes_list]
@[simp] theorem bytes_size (l : List UInt8) : (⟨l.toArray⟩ : ByteArray).size = l.length := rfl
@[simp] theorem bytes_app (l m : List UInt8) : (⟨l.toArray⟩ ++ ⟨m.toArray⟩ : ByteArray) = ⟨(l ++ m).toArray⟩ := by
  apply ByteArray.ext
  simp
@[simp] theorem bytes_extract (l : List UInt8) (a b : Nat) : (⟨l.toArray⟩ : ByteArray).extract a b = ⟨((l.drop a).take (b - a)).toArray⟩ := by
  apply ByteArray.ext
  simp
/-- A text behind its first n parts. -/
def sndN : Nat → LC → LC
  | 0, c => c
  | n + 1, .seq _ b => sndN n b
  | _ + 1, c => c
@[simp] theorem ixSV_mk (l : List UInt8) (k : IntKind) (n : Nat) : ixSV (strV l) (.int k n) = (l[n]?).map fun b => .int .u8 b.toNat := by simp [ixSV]
@[simp] theorem ixSV_zero (l : List UInt8) (k : IntKind) : ixSV (strV l) (.int k 0) = (l[0]?).map fun b => .int .u8 b.toNat := by simp [ixSV]
theorem slcTV_drop (l : List UInt8) (k : IntKind) (n : Nat) (h : n ≤ l.length) : slcTV (strV l) (some (.int k n)) none = some (strV (l.drop n)) := by
  have e : List.take (l.length - n) (l.drop n) = l.drop n := by rw [List.take_of_length_le]; simp
  simp [slcTV, h, e]
theorem slcTV_drop1 (l : List UInt8) (k : IntKind) (h : 1 ≤ l.length) : slcTV (strV l) (some (.int k 1)) none = some (strV (l.drop 1)) := slcTV_drop l k 1 h
theorem slcTV_take (l : List UInt8) (k : IntKind) (n : Nat) (h : n ≤ l.length) : slcTV (strV l) none (some (.int k n)) = some (strV (l.take n)) := by
  simp [slcTV, h]
theorem slcTV_seg (l : List UInt8) (k j : IntKind) (a b : Nat) (h : a ≤ b) (h2 : b ≤ l.length) : slcTV (strV l) (some (.int k a)) (some (.int j b)) = some (strV ((l.drop a).take (b - a))) := by
  simp [slcTV, h, h2]

section
variable (k : IntKind) (a b : Int)
@[simp] theorem bv_add : binV .add (.int k a) (.int k b) = some (.int k (k.wrap (a + b))) := notRfl (by simp [binV, isShift, binInt])
@[simp] theorem bv_sub : binV .sub (.int k a) (.int k b) = some (.int k (k.wrap (a - b))) := notRfl (by simp [binV, isShift, binInt])
@[simp] theorem bv_mul : binV .mul (.int k a) (.int k b) = some (.int k (k.wrap (a * b))) := notRfl (by simp [binV, isShift, binInt])
@[simp] theorem bv_quo : binV .quo (.int k a) (.int k b) = if b = 0 then none else some (.int k (k.wrap (a.tdiv b))) := notRfl (by simp [binV, isShift, binInt])
@[simp] theorem bv_rem : binV .rem (.int k a) (.int k b) = if b = 0 then none else some (.int k (a.tmod b)) := notRfl (by simp [binV, isShift, binInt])
@[simp] theorem bv_and : binV .and (.int k a) (.int k b) = some (.int k (k.wrap (BitVec.ofInt k.bits a &&& BitVec.ofInt k.bits b).toNat)) := notRfl (by simp [binV, isShift, binInt])
@[simp] theorem bv_or : binV .or (.int k a) (.int k b) = some (.int k (k.wrap (BitVec.ofInt k.bits a ||| BitVec.ofInt k.bits b).toNat)) := notRfl (by simp [binV, isShift, binInt])
@[simp] theorem bv_eql : binV .eql (.int k a) (.int k b) = some (.bool (decide (a = b))) := notRfl (by simp [binV, isShift, binInt]; rfl)
@[simp] theorem bv_neq : binV .neq (.int k a) (.int k b) = some (.bool (!decide (a = b))) := notRfl (by simp [binV, isShift, binInt]; rfl)
@[simp] theorem bv_lss : binV .lss (.int k a) (.int k b) = some (.bool (decide (a < b))) := notRfl (by simp [binV, isShift, binInt])
@[simp] theorem bv_leq : binV .leq (.int k a) (.int k b) = some (.bool (decide (a ≤ b))) := notRfl (by simp [binV, isShift, binInt])
@[simp] theorem bv_gtr : binV .gtr (.int k a) (.int k b) = some (.bool (decide (b < a))) := notRfl (by simp [binV, isShift, binInt])
@[simp] theorem bv_geq : binV .geq (.int k a) (.int k b) = some (.bool (decide (b ≤ a))) := notRfl (by simp [binV, isShift, binInt])
@[simp] theorem bv_seq (l m : List UInt8) : binV .eql (strV l) (strV m) = some (.bool (decide (l = m))) := notRfl (by simp only [binV, binStr, bytes_mk]; congr 2; rw [Bool.eq_iff_iff]; simp)
@[simp] theorem bv_sne (l m : List UInt8) : binV .neq (strV l) (strV m) = some (.bool (!decide (l = m))) := notRfl (by simp only [binV, binStr, bytes_mk]; congr 3; rw [Bool.eq_iff_iff]; simp)
theorem bv_sadd (l m : List UInt8) (h : l.length + m.length ≤ 4611686018427387904) : binV .add (strV l) (strV m) = some (strV (l ++ m)) := notRfl (by simp [binV, binStr, h])
@[simp] theorem uv_not (b : Bool) : unV .not (.bool b) = some (.bool (!b)) := notRfl rfl
@[simp] theorem uv_neg : unV .neg (.int k a) = some (.int k (k.wrap (0 - a))) := notRfl rfl
@[simp] theorem bb_eql (x y : Bool) : Lev.binB .eql (.bool x) (.bool y) = some (.bool (x == y)) := notRfl rfl
@[simp] theorem bb_neq (x y : Bool) : Lev.binB .neq (.bool x) (.bool y) = some (.bool (!(x == y))) := notRfl rfl
end
theorem bv_shl (k j : IntKind) (a b : Int) (h : 0 ≤ b) : binV .shl (.int k a) (.int j b) = some (.int k (k.wrap (a * 2 ^ (min b.toNat k.bits)))) := notRfl (by
  have : ¬ b < 0 := by omega
  simp [binV, isShift, binShift, this])
theorem bv_shr (k j : IntKind) (a b : Int) (h : 0 ≤ b) : binV .shr (.int k a) (.int j b) = some (.int k (a.fdiv (2 ^ (min b.toNat k.bits)))) := notRfl (by
  have : ¬ b < 0 := by omega
  simp [binV, isShift, binShift, this])
end Go.Lev


set_option linter.unusedVariables false
set_option linter.unusedSimpArgs false
namespace Go.Lev
open Go

theorem rdN_left (A B : Heap) (a : Addr) (n : Nat) (h : a.block < A.length) : rdN (A ++ B) a n = rdN A a n := by
  unfold rdN
  rw [List.getElem?_append_left h]
theorem rd1_left (A B : Heap) (a : Addr) (h : a.block < A.length) : rd1 (A ++ B) a = rd1 A a := by
  unfold rd1
  rw [List.getElem?_append_left h]
theorem rd1_last (A : Heap) (b : Box) (o : Nat) (hg : b.gen = 0) : rd1 (A ++ [b]) ⟨A.length, o, some 0⟩ = b.cells[o]? := by
  unfold rd1
  simp [hg]
theorem rdN_last (A : Heap) (b : Box) (o n : Nat) (hg : b.gen = 0) (h : o + n ≤ b.cells.length) : rdN (A ++ [b]) ⟨A.length, o, some 0⟩ n = some ((b.cells.drop o).take n) := by
  unfold rdN
  simp [hg, h]
theorem wrN_last (A : Heap) (b : Box) (o fl : Nat) (vs : List Value) (hg : b.gen = 0) (hr : b.ro = false) (hf : fl ≤ A.length) (h : o + vs.length ≤ b.cells.length) (ho : vs.all Value.oneCell' = true) :
    wrN fl (A ++ [b]) ⟨A.length, o, some 0⟩ vs = some (A ++ [{ b with cells := setSeg b.cells o vs }]) := by
  unfold wrN
  simp only [List.getElem?_append_right (Nat.le_refl _), Nat.sub_self, List.getElem?_cons_zero]
  rw [if_pos ⟨by rw [hg], hr, hf, h, ho⟩]
  simp
end Go.Lev

/- Code and functions. -/
import Derived.Test.YtcaogimdpcaohaaDoorLev13
set_option linter.unusedVariables false
set_option linter.unusedSimpArgs false
namespace Go.Lev
open Go Go.RowKit

def cOps (P : Program) (nt : Nat) (ops : Array Oper) (marks : List Nat) : List Oper → Option (List ROp)
  | [] => some []
  | o :: l => match cROp P nt ops marks o, cOps P nt ops marks l with
    | some r, some rs => some (r :: rs)
    | _, _ => none

def compC (P : Program) (nt : Nat) (pf : FuncId → Bool) : Code → Option LC
  | .skip => some .skip
  | .label _ => some .skip
  | .ret => some .ret
  | .exit id => some (.exit id)
  | .seq a b => match compC P nt pf a, compC P nt pf b with
    | some x, some y => some (.seq x y)
    | _, _ => none
  | .cond c a b => if okX c then match compC P nt pf a, compC P nt pf b with
      | some x, some y => some (.cond c x y)
      | _, _ => none
    else none
  | .block id b => (compC P nt pf b).map (.block id)
  | .loop b => (compC P nt pf b).map .loop
  | .scope b => compC P nt pf b
  | .region _ ops draw => match cOps P nt ops (marksOf ops.toList) ops.toList with
    | some rops => if draw then (if P.follows .mixedOrders && drawOK pf ops rops then some (.region rops) else none) else some (.region rops)
    | none => none
  | _ => none

theorem cOps_get {P : Program} {nt : Nat} {ops : Array Oper} {marks : List Nat} : ∀ (l : List Oper) (rs : List ROp), cOps P nt ops marks l = some rs → rs.length = l.length ∧ ∀ (i : Nat) (o : Oper) (r : ROp), l[i]? = some o → rs[i]? = some r → cROp P nt ops marks o = some r
  | [], rs, h => by
    simp only [cOps, Option.some.injEq] at h
    subst h
    exact ⟨rfl, fun i o r h _ => by simp at h⟩
  | o :: l, rs, h => by
    simp only [cOps] at h
    split at h
    · rename_i r rs' hr hrs
      obtain rfl := Option.some.inj h
      obtain ⟨h1, h2⟩ := cOps_get l rs' hrs
      refine ⟨by simp [h1], fun i o' r' hi hi' => ?_⟩
      cases i with
      | zero => simp at hi hi'; subst hi hi'; exact hr
      | succ i => exact h2 i o' r' (by simpa using hi) (by simpa using hi')
    · simp at h

theorem regRel_of {P : Program} {nt : Nat} {ops : Array Oper} {marks : List Nat} {rs : List ROp} (h : cOps P nt ops marks ops.toList = some rs) : RegRel P nt ops rs := by
  obtain ⟨h1, h2⟩ := cOps_get _ _ h
  exact ⟨by simpa using h1, fun i o r hi hr => ⟨marks, h2 i o r (by simpa using hi) hr⟩⟩

def exOf : Ex → Exit
  | .normal => .normal
  | .ret => .ret
  | .exit id => .exit id

section
variable {P : Program} {T : Tab} {fl nt : Nat} {w0 : World}

theorem iter_sound {c : Code} {f : St → Option (Ex × St)} {Q : Exit → Act → World → Prop}
    (hf : ∀ (st : St) (ex : Ex) (st' : St) (a : Act) (w : World) (ρ : Nat → RB) (Q : Exit → Act → World → Prop), f st = some (ex, st') → SRel w0 ρ nt st a w → (∀ a' w' ρ', SRel w0 ρ' nt st' a' w' → Ext st.heap.length ρ w.heap st'.heap.length ρ' w'.heap → Q (exOf ex) a' w') → c.wp P Q a w) :
    ∀ (k : Nat) (st : St) (ex : Ex) (st' : St) (a : Act) (w : World) (ρ : Nat → RB), iter f k st = some (ex, st') → SRel w0 ρ nt st a w → (∀ a' w' ρ', SRel w0 ρ' nt st' a' w' → Ext st.heap.length ρ w.heap st'.heap.length ρ' w'.heap → Q (exOf ex) a' w') → Code.rounds P c Q k a w
  | 0, st, ex, st', a, w, ρ, h, S, hq => by simp [iter] at h
  | k + 1, st, ex, st', a, w, ρ, h, S, hq => by
    rw [rounds_succ]
    simp only [iter] at h
    split at h
    · rename_i s1 h1
      refine hf st .normal s1 a w ρ _ h1 S fun a' w' ρ' S' X => ?_
      exact iter_sound hf k s1 ex st' a' w' ρ' h S' fun a2 w2 ρ2 S2 X2 => hq a2 w2 ρ2 S2 (X.trans X2)
    · rename_i r hne
      refine hf st ex st' a w ρ _ h S fun a' w' ρ' S' X => ?_
      cases ex with
      | normal => exact absurd h (hne st')
      | ret => exact hq a' w' ρ' S' X
      | exit id => exact hq a' w' ρ' S' X

theorem code_sound (hT : Valid P w0 T) {pf : FuncId → Bool} (hp : PureOK T pf) (k : Nat) : ∀ (c : Code) (lc : LC), compC P nt pf c = some lc → ∀ (st : St) (ex : Ex) (st' : St) (a : Act) (w : World) (ρ : Nat → RB) (Q : Exit → Act → World → Prop),
    lc.run P T fl k st = some (ex, st') → SRel w0 ρ nt st a w → (∀ a' w' ρ', SRel w0 ρ' nt st' a' w' → Ext st.heap.length ρ w.heap st'.heap.length ρ' w'.heap → Q (exOf ex) a' w') → c.wp P Q a w := by
  intro c
  induction c with
  | skip =>
    intro lc hc st ex st' a w ρ Q h S hq
    simp only [compC, Option.some.injEq] at hc
    subst hc
    simp only [LC.run, Option.some.injEq, Prod.mk.injEq] at h
    obtain ⟨rfl, rfl⟩ := h
    exact wp_skip (hq a w ρ S (.refl _ _ _))
  | label l =>
    intro lc hc st ex st' a w ρ Q h S hq
    simp only [compC, Option.some.injEq] at hc
    subst hc
    simp only [LC.run, Option.some.injEq, Prod.mk.injEq] at h
    obtain ⟨rfl, rfl⟩ := h
    exact wp_label (hq a w ρ S (.refl _ _ _))
  | ret =>
    intro lc hc st ex st' a w ρ Q h S hq
    simp only [compC, Option.some.injEq] at hc
    subst hc
    simp only [LC.run, Option.some.injEq, Prod.mk.injEq] at h
    obtain ⟨rfl, rfl⟩ := h
    exact wp_ret (hq a w ρ S (.refl _ _ _))
  | exit id =>
    intro lc hc st ex st' a w ρ Q h S hq
    simp only [compC, Option.some.injEq] at hc
    subst hc
    simp only [LC.run, Option.some.injEq, Prod.mk.injEq] at h
    obtain ⟨rfl, rfl⟩ := h
    exact wp_exit (hq a w ρ S (.refl _ _ _))
  | seq x y ihx ihy =>
    intro lc hc st ex st' a w ρ Q h S hq
    simp only [compC] at hc
    split at hc
    · rename_i lx ly hx hy
      obtain rfl := Option.some.inj hc
      simp only [LC.run] at h
      refine wp_seq ?_
      split at h
      · rename_i s1 h1
        refine ihx lx hx st .normal s1 a w ρ _ h1 S fun a' w' ρ' S' X => ?_
        exact ihy ly hy s1 ex st' a' w' ρ' Q h S' fun a2 w2 ρ2 S2 X2 => hq a2 w2 ρ2 S2 (X.trans X2)
      · rename_i r hne
        refine ihx lx hx st ex st' a w ρ _ h S fun a' w' ρ' S' X => ?_
        cases ex with
        | normal => exact absurd h (hne st')
        | ret => exact hq a' w' ρ' S' X
        | exit id => exact hq a' w' ρ' S' X
    · simp at hc
  | cond c x y ihx ihy =>
    intro lc hc st ex st' a w ρ Q h S hq
    simp only [compC] at hc
    split at hc
    · rename_i hok
      split at hc
      · rename_i lx ly hx hy
        obtain rfl := Option.some.inj hc
        simp only [LC.run] at h
        split at h
        · rename_i t hev
          have hv := S.env.ev hok
          rw [hev] at hv
          have hv' : a.eval c = .bool t := by generalize a.eval c = X at hv; cases hv; rfl
          refine wp_cond hv' ?_
          cases t with
          | true => exact ihx lx hx st ex st' a w ρ Q h S hq
          | false => exact ihy ly hy st ex st' a w ρ Q h S hq
        · simp at h
      · simp at hc
    · simp at hc
  | block id b ih =>
    intro lc hc st ex st' a w ρ Q h S hq
    simp only [compC, Option.map_eq_some_iff] at hc
    obtain ⟨lb, hb, rfl⟩ := hc
    simp only [LC.run] at h
    refine wp_block ?_
    split at h
    · rename_i id' s1 h1
      refine ih lb hb st (.exit id') s1 a w ρ _ h1 S fun a' w' ρ' S' X => ?_
      simp only [exOf, Exit.inBlock]
      split at h
      · rename_i he
        simp only [Option.some.injEq, Prod.mk.injEq] at h
        obtain ⟨rfl, rfl⟩ := h
        rw [if_pos he]
        exact hq a' w' ρ' S' X
      · rename_i he
        simp only [Option.some.injEq, Prod.mk.injEq] at h
        obtain ⟨rfl, rfl⟩ := h
        rw [if_neg he]
        exact hq a' w' ρ' S' X
    · rename_i r hne
      refine ih lb hb st ex st' a w ρ _ h S fun a' w' ρ' S' X => ?_
      cases ex with
      | normal => exact hq a' w' ρ' S' X
      | ret => exact hq a' w' ρ' S' X
      | exit id' => exact absurd h (hne id' st')
  | loop b ih =>
    intro lc hc st ex st' a w ρ Q h S hq
    simp only [compC, Option.map_eq_some_iff] at hc
    obtain ⟨lb, hb, rfl⟩ := hc
    simp only [LC.run] at h
    exact wp_loop_rounds k (iter_sound (fun st ex st' a w ρ Q h S hq => ih lb hb st ex st' a w ρ Q h S hq) k st ex st' a w ρ h S hq)
  | scope b ih =>
    intro lc hc st ex st' a w ρ Q h S hq
    simp only [compC] at hc
    refine wp_scope_straight (ih lc hc st ex st' a w ρ _ h S fun a' w' ρ' S' X => ?_)
    cases ex <;> exact hq a' w' ρ' S' X
  | region id ops draw =>
    intro lc hc st ex st' a w ρ Q h S hq
    simp only [compC] at hc
    split at hc
    · rename_i rops hro
      have hR := regRel_of hro
      cases draw with
      | false =>
        simp only [Bool.false_eq_true, if_false, Option.some.injEq] at hc
        subst hc
        simp only [LC.run, Option.map_eq_some_iff, Prod.mk.injEq] at h
        obtain ⟨s, hs, rfl, rfl⟩ := h
        exact wp_region_lev hT hR S hs hq
      | true =>
        simp only [if_true] at hc
        split at hc
        · rename_i hd
          simp only [Bool.and_eq_true] at hd
          obtain rfl := Option.some.inj hc
          simp only [LC.run, Option.map_eq_some_iff, Prod.mk.injEq] at h
          obtain ⟨s, hs, rfl, rfl⟩ := h
          exact wp_region_draw_lev hT hp hd.1 hR hd.2 S hs hq
        · simp at hc
    · simp at hc
  | _ => intro lc hc; simp [compC] at hc

end

/-! ### Functions -/
inductive LRes where
  | tmp (t : Nat)
  | cell1 (t : Nat)
  | cellN (t n : Nat)

structure LFn where
  nt : Nat
  body : LC
  results : List LRes

def cRes (P : Program) : List ResultVar → Option (List LRes)
  | [] => some []
  | .tmp t :: l => (cRes P l).map (.tmp t :: ·)
  | .cell t ty :: l => match tyAgg P ty, tySize P ty with
    | some false, some _ => (cRes P l).map (.cell1 t :: ·)
    | some true, some n => (cRes P l).map (.cellN t n :: ·)
    | _, _ => none

def compF (P : Program) (pf : FuncId → Bool) (fn : Func) : Option LFn :=
  match fn.body with
  | some c => if fn.name == "runtime.NumGoroutine" then none else
    match compC P fn.ntmps pf c, cRes P fn.results.toList with
    | some lc, some rs => some ⟨fn.ntmps, lc, rs⟩
    | _, _ => none
  | none => none

def evRes (st : St) : LRes → Option Value
  | .tmp t => some (st.env t)
  | .cell1 t => match st.env t with
    | .pointer (some a) => rd1 st.heap a
    | _ => none
  | .cellN t n => match st.env t with
    | .pointer (some a) => (rdN st.heap a n).map fun l => .agg l.toArray
    | _ => none

def evAll (st : St) : List LRes → Option (List Value)
  | [] => some []
  | r :: l => match evRes st r, evAll st l with
    | some v, some vs => some (v :: vs)
    | _, _ => none

def packRes : List Value → Value
  | [v] => v
  | l => .tuple l.toArray

def initEnv (args : List Value) : Nat → Value := fun j => args.getD j undef

def levFn (P : Program) (T : Tab) (fl k : Nat) (F : LFn) (args : List Value) (H : Heap) : Option (Value × Heap) :=
  if args.length ≤ F.nt then
    match F.body.run P T fl k ⟨initEnv args, H⟩ with
    | some (.normal, st) => (evAll st F.results).map fun l => (packRes l, st.heap)
    | some (.ret, st) => (evAll st F.results).map fun l => (packRes l, st.heap)
    | _ => none
  else none

section
variable {P : Program} {T : Tab} {fl nt : Nat} {w0 : World}

theorem res_sound {st : St} {a : Act} {w : World} {ρ : Nat → RB} (S : SRel w0 ρ nt st a w) (g : ResultVar → Sem Value) (hg1 : ∀ t, (g (.tmp t)).run P w = .ok (a.tmps.getD t undef) w)
    (hg2 : ∀ b t, (g (.cell b t)).run P w = ((asAddr (a.tmps.getD b undef)).run P w).andThen fun x w' => (loadVar t x).run P w') : ∀ (rv : List ResultVar) (rs : List LRes) (l : List Value), cRes P rv = some rs → evAll st rs = some l →
    ∃ l' : List Value, (rv.mapM g).run P w = .ok l' w ∧ LRel st.heap.length ρ w.heap l l'
  | [], rs, l, h1, h2 => by
    simp only [cRes, Option.some.injEq] at h1
    subst h1
    simp only [evAll, Option.some.injEq] at h2
    subst h2
    exact ⟨[], by simp, .nil _ _ _⟩
  | .tmp t :: rv, rs, l, h1, h2 => by
    simp only [cRes, Option.map_eq_some_iff] at h1
    obtain ⟨rs', h1, rfl⟩ := h1
    simp only [evAll, evRes] at h2
    split at h2
    · rename_i v vs hv hvs
      obtain rfl := Option.some.inj h2
      obtain rfl := Option.some.inj hv
      obtain ⟨l', q1, q2⟩ := res_sound S g hg1 hg2 rv rs' vs h1 hvs
      exact ⟨a.tmps.getD t undef :: l', by rw [List.mapM_cons]; simp only [Sem.run_bind, hg1, Result.andThen_ok, q1, Sem.run_pure], .cons (S.env t) q2⟩
    · simp at h2
  | .cell b t :: rv, rs, l, h1, h2 => by
    simp only [cRes] at h1
    have hp := S.env b
    split at h1
    · rename_i n ha hn
      simp only [Option.map_eq_some_iff] at h1
      obtain ⟨rs', h1, rfl⟩ := h1
      simp only [evAll, evRes] at h2
      split at h2
      · rename_i v vs hv hvs
        obtain rfl := Option.some.inj h2
        split at hv
        · rename_i ad hev
          rw [hev] at hp
          obtain ⟨v', k1, k2, k3⟩ := S.rel.rd1 hv hp
          obtain ⟨l', q1, q2⟩ := res_sound S g hg1 hg2 rv rs' vs h1 hvs
          refine ⟨v' :: l', ?_, .cons k3 q2⟩
          rw [List.mapM_cons]
          simp only [Sem.run_bind, hg2, k1, asAddr, Sem.run_pure, Result.andThen_ok, loadVar, run_isAgg ha, Bool.false_eq_true, if_false, run_load, k2, q1]
        · simp at hv
      · simp at h2
    · rename_i n ha hn
      simp only [Option.map_eq_some_iff] at h1
      obtain ⟨rs', h1, rfl⟩ := h1
      simp only [evAll, evRes] at h2
      split at h2
      · rename_i v vs hv hvs
        obtain rfl := Option.some.inj h2
        split at hv
        · rename_i ad hev
          simp only [Option.map_eq_some_iff] at hv
          obtain ⟨cs, hcs, rfl⟩ := hv
          rw [hev] at hp
          obtain ⟨bx, hb, hsp, hle, rfl⟩ := rdN_some hcs
          obtain ⟨_, hx'⟩ := hp.ptrAt (by rw [(S.rel.box _ bx hb).gen]; exact hsp)
          obtain ⟨cl, k1, k2, k3⟩ := S.rel.cellsAt hb ad.off n hle
          obtain ⟨l', q1, q2⟩ := res_sound S g hg1 hg2 rv rs' vs h1 hvs
          refine ⟨.agg cl.toArray :: l', ?_, .cons k3.agg q2⟩
          have hld := run_loadCells_list (P := P) w ⟨(ρ ad.block).blk, (ρ ad.block).base + ad.off, none⟩ cl (fun j u hj => by rw [Addr.add_lit]; exact k2 j u hj)
          rw [k1] at hld
          rw [List.mapM_cons]
          simp only [Sem.run_bind, hg2, hx', asAddr, Sem.run_pure, Result.andThen_ok, loadVar, run_isAgg ha, if_true, run_sizeOf hn, hld, q1]
        · simp at hv
      · simp at h2
    · simp at h1

theorem pack_sound {N : Nat} {ρ : Nat → RB} {h : Array Obj} {l l' : List Value} (r : LRel N ρ h l l') : VRel N ρ h (packRes l) (if h : l'.toArray.size = 1 then l'.toArray[0] else .tuple l'.toArray) := by
  match l, l', r with
  | [], l', r =>
    have : l' = [] := List.eq_nil_of_length_eq_zero r.1.symm
    subst this
    simp only [packRes, List.size_toArray, List.length_nil]
    exact .tuple #[] #[] rfl fun i v v' h _ => by simp at h
  | [v], l', r =>
    obtain ⟨v', rfl⟩ : ∃ v', l' = [v'] := List.length_eq_one_iff.1 r.1.symm
    simp only [packRes, List.size_toArray, List.length_singleton, dite_true]
    exact r.2 0 v v' rfl rfl
  | v :: u :: rest, l', r =>
    have hl := r.1
    have : ¬ l'.toArray.size = 1 := by simp at hl ⊢; omega
    rw [dif_neg this]
    exact .tuple _ _ (by simpa using hl) fun i x x' h1 h2 => r.2 i x x' (by simpa using h1) (by simpa using h2)

theorem runOps_floor (hf : ∀ f fl args H v H', T f fl args H = some (v, H') → FloorOK fl H H') : ∀ (rs : List ROp) (st st' : St), runOps P T fl rs st = some st' → FloorOK fl st.heap st'.heap
  | [], st, st', h => by simp only [runOps, Option.some.injEq] at h; subst h; exact .refl _ _
  | r :: rs, st, st', h => by
    simp only [runOps] at h
    split at h
    · rename_i s hs
      refine FloorOK.trans ?_ (runOps_floor hf rs s st' h)
      unfold ROp.step at hs
      split at hs
      · split at hs
        · rename_i v K hk
          obtain rfl := Option.some.inj hs
          exact step_floor hf hk
        · simp at hs
      · obtain rfl := Option.some.inj hs; exact .refl _ _
    · simp at h

theorem run_floor (hf : ∀ f fl args H v H', T f fl args H = some (v, H') → FloorOK fl H H') (k : Nat) : ∀ (lc : LC) (st : St) (ex : Ex) (st' : St), lc.run P T fl k st = some (ex, st') → FloorOK fl st.heap st'.heap := by
  intro lc
  induction lc with
  | skip => intro st ex st' h; simp only [LC.run, Option.some.injEq, Prod.mk.injEq] at h; obtain ⟨_, rfl⟩ := h; exact .refl _ _
  | ret => intro st ex st' h; simp only [LC.run, Option.some.injEq, Prod.mk.injEq] at h; obtain ⟨_, rfl⟩ := h; exact .refl _ _
  | exit id => intro st ex st' h; simp only [LC.run, Option.some.injEq, Prod.mk.injEq] at h; obtain ⟨_, rfl⟩ := h; exact .refl _ _
  | region ops =>
    intro st ex st' h
    simp only [LC.run, Option.map_eq_some_iff, Prod.mk.injEq] at h
    obtain ⟨s, hs, _, rfl⟩ := h
    exact runOps_floor hf ops st s hs
  | seq a b iha ihb =>
    intro st ex st' h
    simp only [LC.run] at h
    split at h
    · rename_i s hs
      exact (iha st _ s hs).trans (ihb s ex st' h)
    · exact iha st ex st' h
  | cond c a b iha ihb =>
    intro st ex st' h
    simp only [LC.run] at h
    split at h
    · split at h
      · exact iha st ex st' h
      · exact ihb st ex st' h
    · simp at h
  | block id b ih =>
    intro st ex st' h
    simp only [LC.run] at h
    split at h
    · rename_i id' s hs
      split at h <;> (simp only [Option.some.injEq, Prod.mk.injEq] at h; obtain ⟨_, rfl⟩ := h; exact ih st _ s hs)
    · exact ih st ex st' h
  | loop b ih =>
    intro st ex st' h
    simp only [LC.run] at h
    have key : ∀ (n : Nat) (st : St), iter (b.run P T fl k) n st = some (ex, st') → FloorOK fl st.heap st'.heap := by
      intro n
      induction n with
      | zero => intro st h; simp [iter] at h
      | succ n ihn =>
        intro st h
        simp only [iter] at h
        split at h
        · rename_i s hs
          exact (ih st _ s hs).trans (ihn s h)
        · exact ih st ex st' h
    exact key k st h

theorem Valid.floor (hT : Valid P w0 T) : ∀ f fl args H v H', T f fl args H = some (v, H') → FloorOK fl H H' := fun f fl args H v H' h => (hT f fl args H v H' h).2.1

/-- A function's compact text tells what its call does. -/
theorem fn_sound (hT : Valid P w0 T) {pf : FuncId → Bool} (hp : PureOK T pf) {f : FuncId} {fn : Func} {F : LFn} (hf : P.funcs[f]? = some fn) (hF : compF P pf fn = some F) (k : Nat) : ValidAt P w0 (fun fl args H => levFn P T fl k F args H) f := by
  intro fl args H v H' h
  unfold compF at hF
  split at hF
  case h_2 => simp at hF
  rename_i c hbody
  split at hF
  case isTrue => simp at hF
  rename_i hname
  split at hF
  case h_2 => simp at hF
  rename_i lc rs hlc hrs
  obtain rfl := Option.some.inj hF
  unfold levFn at h
  dsimp only at h
  split at h
  case isFalse => simp at h
  rename_i hlen
  have hmain : ∃ ex st l, (ex = .normal ∨ ex = .ret) ∧ lc.run P T fl k ⟨initEnv args, H⟩ = some (ex, st) ∧ evAll st rs = some l ∧ v = packRes l ∧ H' = st.heap := by
    split at h
    · rename_i st hst
      simp only [Option.map_eq_some_iff, Prod.mk.injEq] at h
      obtain ⟨l, h1, rfl, rfl⟩ := h
      exact ⟨.normal, st, l, .inl rfl, hst, h1, rfl, rfl⟩
    · rename_i st hst
      simp only [Option.map_eq_some_iff, Prod.mk.injEq] at h
      obtain ⟨l, h1, rfl, rfl⟩ := h
      exact ⟨.ret, st, l, .inr rfl, hst, h1, rfl, rfl⟩
    · simp at h
  obtain ⟨ex, st, l, hex, hrun, hl, rfl, rfl⟩ := hmain
  refine ⟨⟨fn, hf, by simpa using hname, by simp [hbody]⟩, run_floor hT.floor k lc _ ex st hrun, fun ρ w args' R hargs => ?_⟩
  refine calls_of_wp hf hbody ?_
  have hal := hargs.1
  simp only [Array.length_toList] at hal
  have S : SRel w0 ρ fn.ntmps ⟨initEnv args, H⟩ { tmps := args' ++ Array.replicate (fn.ntmps - args'.size) undef, defers := [] } w := by
    refine ⟨R, fun t => ?_, by simp; omega, rfl⟩
    simp only [initEnv]
    by_cases ht : t < args.length
    · have e1 : args.getD t undef = args[t] := by simp [ht]
      have ht' : t < args'.size := by omega
      have e2 : (args' ++ Array.replicate (fn.ntmps - args'.size) undef).getD t undef = args'[t] := by
        rw [Array.getD_eq_getD_getElem?, Array.getElem?_append_left ht', Array.getElem?_eq_getElem ht']
        rfl
      rw [e1, e2]
      exact hargs.2 t _ _ (List.getElem?_eq_getElem ht) (by simp [ht'])
    · have e1 : args.getD t undef = undef := by simp [List.getD_eq_getElem?_getD, List.getElem?_eq_none (Nat.le_of_not_lt ht)]
      have e2 : (args' ++ Array.replicate (fn.ntmps - args'.size) undef).getD t undef = undef := by
        rw [Array.getD_eq_getD_getElem?, Array.getElem?_append_right (by omega)]
        rw [Array.getElem?_replicate]
        split <;> rfl
      rw [e1, e2]
      exact .undef _ _ _
  refine code_sound hT hp k c lc hlc ⟨initEnv args, H⟩ ex st _ w ρ _ hrun S fun a' w' ρ' S' X => ?_
  obtain ⟨g, hg1, hg2, hgr⟩ : ∃ g : ResultVar → Sem Value, (∀ t, (g (.tmp t)).run P w' = .ok (a'.tmps.getD t undef) w') ∧
      (∀ b t, (g (.cell b t)).run P w' = ((asAddr (a'.tmps.getD b undef)).run P w').andThen fun x w' => (loadVar t x).run P w') ∧
      results fn a'.tmps = (do let vs ← fn.results.mapM g; pure (if h : vs.size = 1 then vs[0] else .tuple vs)) :=
    ⟨_, fun t => rfl, fun b t => by rw [Sem.run_bind], rfl⟩
  obtain ⟨l', q1, q2⟩ := res_sound (P := P) S' g hg1 hg2 fn.results.toList rs l hrs hl
  have hres : (results fn a'.tmps).run P w' = .ok (if h : l'.toArray.size = 1 then l'.toArray[0] else .tuple l'.toArray) w' := by
    rw [hgr, Array.mapM_eq_mapM_toList]
    simp only [Sem.run_bind, Sem.run_map, q1, Result.andThen_ok, Sem.run_pure]
  rcases hex with rfl | rfl
  · exact ⟨S'.defers, _, hres, _, ρ', rfl, pack_sound q2, S'.rel, X⟩
  · exact ⟨S'.defers, _, hres, _, ρ', rfl, pack_sound q2, S'.rel, X⟩

end
end Go.Lev

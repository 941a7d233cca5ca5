/- Calls; regions. -/
import Derived.Test.YtcaogimdpcaohaaDoorLev11
set_option linter.unusedVariables false
set_option linter.unusedSimpArgs false
namespace Go.Lev
open Go Go.RowKit

theorem comp_call {P : Program} {m : Bool} {o : Oper} {f : Operand} {xs : List Operand} (hc : comp P m o = some (.call f xs)) :
    ∃ c : Call, o.op = .call c ∧ c.callee = .value f ∧ xs = c.args.toList ∧ okX f = true ∧ ∀ x ∈ c.args, okX x = true := by
  unfold comp at hc
  split at hc
  case isFalse => simp at hc
  rename_i hall
  have hok := operands_ok hall
  obtain ⟨dst, op, type, pos, after, guard⟩ := o
  cases op <;> simp only [compIn] at hc <;> simp only [Op.operands] at hok <;> try (simp at hc; done)
  case call c =>
    obtain ⟨callee, args, argTypes⟩ := c
    cases callee with
    | value g =>
      simp only [cCall, Option.some.injEq, LO.call.injEq] at hc
      obtain ⟨rfl, rfl⟩ := hc
      exact ⟨_, rfl, rfl, rfl, hok g (by simp [Call.operands]), fun x hx => hok x (by simp [Call.operands, hx])⟩
    | invoke r n => simp [cCall] at hc
    | builtin b =>
      exfalso
      cases b <;> simp only [cCall] at hc <;> first
        | (simp at hc; done)
        | (unfold cLen at hc; (repeat' (split at hc)) <;> (simp at hc; done))
        | (unfold cApp at hc; (repeat' (split at hc)) <;> (simp at hc; done))
        | (unfold cCpy at hc; (repeat' (split at hc)) <;> (simp at hc; done))
        | (split at hc <;> simp at hc)
  case makeFunc fn a b => cases fn <;> simp at hc
  case slice t x lo hi mx => split at hc <;> first | (simp at hc; done) | (unfold cSlice at hc; (repeat' (split at hc)) <;> (simp at hc; done))
  all_goals first
    | (unfold cAlloc at hc; (repeat' (split at hc)) <;> (simp at hc; done))
    | (unfold cBuild at hc; (repeat' (split at hc)) <;> (simp at hc; done))
    | (unfold cRow at hc; (repeat' (split at hc)) <;> (simp at hc; done))
    | (unfold cLoad at hc; (repeat' (split at hc)) <;> (simp at hc; done))
    | (unfold cStore at hc; simp at hc; done)
    | (unfold cBin at hc; (repeat' (split at hc)) <;> first | (simp at hc; done) | (obtain hc := Option.some.inj hc; exact absurd hc (by simp)))
    | (unfold cConv at hc; (repeat' (split at hc)) <;> (simp at hc; done))
    | (unfold cMkI at hc; (repeat' (split at hc)) <;> (simp at hc; done))
    | (unfold cMk at hc; (repeat' (split at hc)) <;> (simp at hc; done))
    | (unfold cFieldAddr at hc; (repeat' (split at hc)) <;> (simp at hc; done))
    | (unfold cField at hc; (repeat' (split at hc)) <;> (simp at hc; done))
    | (unfold cIndexAddr at hc; (repeat' (split at hc)) <;> (simp at hc; done))
    | (unfold cIndex at hc; (repeat' (split at hc)) <;> (simp at hc; done))

section
variable {P : Program} {T : Tab} {fl : Nat} {env : Nat → Value} {H H' : Heap} {w0 w : World} {ρ : Nat → RB} {a : Act} {v : Value}

/-- An operation, a call too. -/
theorem op_wp (hT : Valid P w0 T) (R : Rel w0 ρ H w) (E : ERel H.length ρ w.heap env a) {m : Bool} {o : Oper} {lo : LO} (hc : comp P m o = some lo) (hs : lo.step P T fl env H = some (v, H')) {next : Act → World → Prop} {Q : Exit → Act → World → Prop}
    (hn : ∀ v' w' ρ', VRel H'.length ρ' w'.heap v v' → Rel w0 ρ' H' w' → Ext H.length ρ w.heap H'.length ρ' w'.heap → next (a.put o.dst v') w') : o.wp P a w next Q := by
  by_cases hcall : ∃ f xs, lo = .call f xs
  · obtain ⟨f, xs, rfl⟩ := hcall
    obtain ⟨c, ho, hcal, rfl, hf, hxs⟩ := comp_call hc
    simp only [LO.step] at hs
    split at hs
    · rename_i k first captured hev
      obtain ⟨⟨fn, hfn, hname, hbody⟩, _, hcalls⟩ := hT k fl _ H v H' hs
      have hv := E.ev hf
      rw [hev] at hv
      have hreal : ∃ fs cs : Array Value, a.eval f = .func (.func k) fs cs ∧ LRel H.length ρ w.heap first.toList fs.toList ∧ LRel H.length ρ w.heap captured.toList cs.toList := by
        generalize a.eval f = X at hv
        cases hv with
        | func _ _ fs _ cs h1 h2 h3 h4 =>
          exact ⟨fs, cs, rfl, ⟨by simpa using h1, fun i u u' q1 q2 => h2 i u u' (by simpa using q1) (by simpa using q2)⟩, ⟨by simpa using h3, fun i u u' q1 q2 => h4 i u u' (by simpa using q1) (by simpa using q2)⟩⟩
      obtain ⟨fs, cs, hef, hfs, hcs⟩ := hreal
      have hargs : LRel H.length ρ w.heap (c.args.toList.map (evO env)) (c.args.map a.eval).toList := by
        refine ⟨by simp, fun i u u' q1 q2 => ?_⟩
        simp only [List.getElem?_map, Option.map_eq_some_iff, Array.toList_map] at q1 q2
        obtain ⟨x, hx, rfl⟩ := q1
        obtain ⟨y, hy, rfl⟩ := q2
        rw [hx] at hy
        obtain rfl := Option.some.inj hy
        exact E.ev (hxs x (by simpa using List.mem_of_getElem? hx))
      have hall : LRel H.length ρ w.heap (first.toList ++ c.args.toList.map (evO env) ++ captured.toList) (fs ++ c.args.map a.eval ++ cs).toList := by
        simpa using (hfs.app hargs).app hcs
      have hrun : (execOp a.eval o).run P w = .ok (.enter k (fs ++ c.args.map a.eval ++ cs)) w := by
        have hb2 : fn.body ≠ none := by intro h; simp [h] at hbody
        have hn2 : ¬ fn.name = "runtime.NumGoroutine" := by
          intro h
          rw [h] at hname
          simp at hname
        simp [execOp, ho, resolve, hcal, hef, Deferred.ofValue, invoke, callFunc, hfn, hn2, hb2]
      unfold Oper.wp
      rw [hrun, Oper.upon_enter]
      refine (hcalls ρ w _ R hall).mono ?_
      rintro e w' ⟨v', ρ', rfl, h1, h2, h3⟩
      exact hn v' w' ρ' h1 h2 h3
    · simp at hs
  · obtain ⟨n, v', w', ρ', h1, h2, h3, h4, h5⟩ := comp_res R E hc (fun f xs h => hcall ⟨f, xs, h⟩) hs
    unfold Oper.wp
    rw [h1]
    rcases h2 with rfl | ⟨rfl, rfl⟩
    · rw [Oper.upon_value]; exact hn v' w' ρ' h3 h4 h5
    · rw [Oper.upon_skip]; exact hn undef w' ρ' h3 h4 h5
end

/-- A frame and a world, told by a state. -/
structure SRel (w0 : World) (ρ : Nat → RB) (nt : Nat) (st : St) (a : Act) (w : World) : Prop where
  rel : Rel w0 ρ st.heap w
  env : ERel st.heap.length ρ w.heap st.env a
  size : a.tmps.size = nt
  defers : a.defers = []

theorem ERel.put {N : Nat} {ρ : Nat → RB} {h : Array Obj} {env : Nat → Value} {a : Act} (E : ERel N ρ h env a) {dst : Option Nat} (hd : ∀ d, dst = some d → d < a.tmps.size) {v v' : Value} (hv : VRel N ρ h v v') : ERel N ρ h (put env dst v) (a.put dst v') := by
  intro t
  cases dst with
  | none => exact E t
  | some d =>
    have hlt := hd d rfl
    simp only [Lev.put, upd, Act.put]
    by_cases htd : t = d
    · subst htd
      rw [if_pos rfl]
      have : (a.tmps.setIfInBounds t v').getD t undef = v' := by simp [Array.getD, hlt]
      rw [this]
      exact hv
    · rw [if_neg htd]
      have : (a.tmps.setIfInBounds d v').getD t undef = a.tmps.getD t undef := by
        simp only [Array.getD_eq_getD_getElem?]
        rw [Array.getElem?_setIfInBounds_ne (Ne.symm htd)]
      rw [this]
      exact E t

def marksOf (ops : List Oper) : List Nat := ops.filterMap fun o => match o.op with
  | .call { callee := .builtin .append, args, .. } => match args.toList with
    | [_, .tmp t] => some t
    | _ => none
  | _ => none

def dstOK (nt : Nat) : Option Nat → Bool
  | some d => decide (d < nt)
  | none => true

def cROp (P : Program) (nt : Nat) (ops : Array Oper) (marks : List Nat) (o : Oper) : Option ROp :=
  match comp P (match o.dst with | some d => marks.contains d | none => false) o with
  | some lo =>
    if dstOK nt o.dst then
      match o.guard with
      | none => some ⟨none, o.dst, lo⟩
      | some (j, want) => match (ops[j]?).bind (·.dst) with
        | some t => if t < nt then some ⟨some (t, want), o.dst, lo⟩ else none
        | none => none
    else none
  | none => none

theorem cROp_some {P : Program} {nt : Nat} {ops : Array Oper} {marks : List Nat} {o : Oper} {r : ROp} (h : cROp P nt ops marks o = some r) :
    ∃ m, comp P m o = some r.lo ∧ r.dst = o.dst ∧ dstOK nt o.dst = true ∧
      ((o.guard = none ∧ r.guard = none) ∨ ∃ j want t, o.guard = some (j, want) ∧ (ops[j]?).bind (·.dst) = some t ∧ t < nt ∧ r.guard = some (t, want)) := by
  unfold cROp at h
  split at h
  · rename_i lo hlo
    split at h
    · rename_i hd
      split at h
      · rename_i hg
        obtain rfl := Option.some.inj h
        exact ⟨_, hlo, rfl, hd, .inl ⟨hg, rfl⟩⟩
      · rename_i j want hg
        split at h
        · rename_i t ht
          split at h
          · rename_i hlt
            obtain rfl := Option.some.inj h
            exact ⟨_, hlo, rfl, hd, .inr ⟨j, want, t, hg, ht, hlt, rfl⟩⟩
          · simp at h
        · simp at h
    · simp at h
  · simp at h

theorem wanted_eq {P : Program} {nt : Nat} {ops : Array Oper} {marks : List Nat} {o : Oper} {r : ROp} (h : cROp P nt ops marks o = some r) {N : Nat} {ρ : Nat → RB} {hp : Array Obj} {env : Nat → Value} {a : Act} (E : ERel N ρ hp env a) (hsz : a.tmps.size = nt) :
    Region.wanted o (yielded ops a.tmps) = guardOn env r.guard := by
  obtain ⟨m, _, _, _, hg⟩ := cROp_some h
  rcases hg with ⟨h1, h2⟩ | ⟨j, want, t, h1, h2, h3, h4⟩
  · simp [Region.wanted, h1, h2, guardOn]
  · simp only [Region.wanted, h1, h4, guardOn, yielded, h2, Option.bind_some]
    have hv := E t
    have hget : a.tmps[t]? = some (a.tmps.getD t undef) := by
      have h3' : t < a.tmps.size := by rw [hsz]; exact h3
      rw [Array.getElem?_eq_getElem h3']
      simp [Array.getD, h3']
    rw [hget]
    generalize a.tmps.getD t undef = X at hv ⊢
    generalize env t = Y at hv ⊢
    cases hv <;> first | rfl | (simp; done) | (rename_i b; cases b <;> cases want <;> rfl)

def runI (P : Program) (T : Tab) (fl : Nat) (rops : List ROp) : List Nat → St → Option St
  | [], st => some st
  | i :: σ, st => match rops[i]? with
    | none => none
    | some r => match r.step P T fl st with
      | some st' => runI P T fl rops σ st'
      | none => none

/-- The region's operations and its compact ones. -/
structure RegRel (P : Program) (nt : Nat) (ops : Array Oper) (rops : List ROp) : Prop where
  len : rops.length = ops.size
  each : ∀ (i : Nat) (o : Oper) (r : ROp), ops[i]? = some o → rops[i]? = some r → ∃ marks, cROp P nt ops marks o = some r

section
variable {P : Program} {T : Tab} {fl nt : Nat} {w0 w : World} {ρ : Nat → RB} {a : Act} {st st' : St} {ops : Array Oper} {rops : List ROp}

theorem rop_wp (hT : Valid P w0 T) (hR : RegRel P nt ops rops) {i : Nat} {r : ROp} (hr : rops[i]? = some r) (S : SRel w0 ρ nt st a w) (hs : r.step P T fl st = some st') {K : Act → World → Prop} {Q : Exit → Act → World → Prop}
    (hn : ∀ a' w' ρ', SRel w0 ρ' nt st' a' w' → Ext st.heap.length ρ w.heap st'.heap.length ρ' w'.heap → K a' w') : wpOp P ops Q i K a w := by
  have hi : i < ops.size := by have := (List.getElem?_eq_some_iff.1 hr).1; have := hR.len; omega
  obtain ⟨o, ho⟩ : ∃ o, ops[i]? = some o := ⟨_, Array.getElem?_eq_getElem hi⟩
  obtain ⟨marks, hc⟩ := hR.each i o r ho hr
  have hw := wanted_eq hc S.env S.size
  obtain ⟨m, hcomp, hdst, hdok, _⟩ := cROp_some hc
  have hdlt : ∀ d, o.dst = some d → d < a.tmps.size := fun d hd => by
    rw [hd] at hdok
    rw [S.size]
    simpa [dstOK] using hdok
  have putd : ∀ v, (a.put o.dst v).defers = [] := fun v => by have := S.defers; cases o.dst <;> simpa [Act.put] using this
  have putsz : ∀ v, (a.put o.dst v).tmps.size = nt := fun v => by have := S.size; cases o.dst <;> simpa [Act.put] using this
  unfold wpOp
  simp only [ho, hw]
  unfold ROp.step at hs
  split at hs
  · rename_i hg
    rw [hg]
    simp only [if_true]
    split at hs
    · rename_i v H' hstep
      obtain rfl := Option.some.inj hs
      refine .inl (op_wp hT S.rel S.env hcomp hstep fun v' w' ρ' h1 h2 h3 => ?_)
      refine hn _ _ ρ' ⟨h2, ?_, putsz v', putd v'⟩ h3
      rw [hdst]
      exact (S.env.mono h3).put hdlt h1
    · simp at hs
  · rename_i hg
    have hg' : guardOn st.env r.guard = false := by simpa using hg
    rw [hg']
    obtain rfl := Option.some.inj hs
    simp only [Bool.false_eq_true, if_false]
    refine hn _ _ ρ ⟨S.rel, ?_, putsz undef, putd undef⟩ (.refl _ _ _)
    rw [hdst]
    exact S.env.put hdlt (.undef _ _ _)

theorem wpOps_runI (hT : Valid P w0 T) (hR : RegRel P nt ops rops) {Q : Exit → Act → World → Prop} : ∀ (σ : List Nat) (st : St) (a : Act) (w : World) (ρ : Nat → RB), SRel w0 ρ nt st a w → runI P T fl rops σ st = some st' →
    (∀ a' w' ρ', SRel w0 ρ' nt st' a' w' → Ext st.heap.length ρ w.heap st'.heap.length ρ' w'.heap → Q .normal a' w') → wpOps P ops Q σ a w
  | [], st, a, w, ρ, S, h, hq => by
    simp only [runI, Option.some.injEq] at h
    subst h
    exact hq a w ρ S (.refl _ _ _)
  | i :: σ, st, a, w, ρ, S, h, hq => by
    simp only [runI] at h
    split at h
    · simp at h
    · rename_i r hr
      split at h
      · rename_i st1 h1
        rw [wpOps_cons]
        refine rop_wp hT hR hr S h1 fun a' w' ρ' S' X => ?_
        exact wpOps_runI hT hR σ st1 a' w' ρ' S' h fun a2 w2 ρ2 S2 X2 => hq a2 w2 ρ2 S2 (X.trans X2)
      · simp at h

theorem runOps_runI (rops : List ROp) : ∀ (l : List ROp) (k : Nat) (st : St), (∀ j, l[j]? = rops[k + j]?) → runOps P T fl l st = runI P T fl rops (List.range' k l.length) st
  | [], k, st, h => rfl
  | r :: l, k, st, h => by
    have h0 := h 0
    simp only [List.getElem?_cons_zero, Nat.add_zero] at h0
    simp only [List.length_cons, List.range'_succ, runOps, runI, ← h0]
    cases r.step P T fl st with
    | none => rfl
    | some st1 => exact runOps_runI rops l (k + 1) st1 fun j => by have := h (j + 1); simpa [Nat.add_assoc, Nat.add_comm 1 j] using this

theorem wp_region_lev (hT : Valid P w0 T) (hR : RegRel P nt ops rops) {id : Nat} {Q : Exit → Act → World → Prop} (S : SRel w0 ρ nt st a w) (h : runOps P T fl rops st = some st')
    (hq : ∀ a' w' ρ', SRel w0 ρ' nt st' a' w' → Ext st.heap.length ρ w.heap st'.heap.length ρ' w'.heap → Q .normal a' w') : (Code.region id ops false).wp P Q a w := by
  refine wp_region (wpOps_runI (fl := fl) hT hR _ st a w ρ S ?_ hq)
  rw [runOps_runI rops rops 0 st (fun j => by simp), hR.len] at h
  rw [List.range_eq_range']
  exact h
end
end Go.Lev

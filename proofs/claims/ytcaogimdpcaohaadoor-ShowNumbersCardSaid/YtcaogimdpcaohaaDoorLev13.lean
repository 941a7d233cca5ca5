/- Regions that draw their order. -/
import Derived.Test.YtcaogimdpcaohaaDoorLev12
set_option linter.unusedVariables false
set_option linter.unusedSimpArgs false
namespace Go.Lev
open Go Go.RowKit

def oList : Option Operand → List Operand
  | some x => [x]
  | none => []
def pList (ps : List (Nat × Nat × Operand)) : List Operand := ps.map (·.2.2)

def LO.opnds : LO → List Operand
  | .mv x | .nilchk x | .un _ x | .convI _ x | .convIF _ x | .convS x | .isNil _ _ x | .box x | .load1 x | .loadN _ x | .fad _ x | .fld1 _ x | .fldN _ _ x | .mkI _ x | .ext x _ | .lenT x | .lenS x | .b2s x => [x]
  | .pick c a b => [c, a, b]
  | .bin _ x y | .binB _ x y | .eqA _ _ x y | .store _ x y | .iadA _ _ x y | .iadS _ x y | .ix1 _ x y | .ixN _ _ x y | .ixS x y | .mn x y | .mx x y | .mk _ _ _ x y | .app _ _ x y | .cpy _ x y => [x, y]
  | .pr o => o.op.operands.toList
  | .alloc _ | .lenA _ => []
  | .build _ ps | .row _ _ _ ps | .rowM _ _ ps => pList ps
  | .slcT x lo hi | .slcA _ _ x lo hi => [x] ++ oList lo ++ oList hi
  | .slc _ x lo hi mc => [x] ++ oList lo ++ oList hi ++ oList mc
  | .mkf _ fs cs => fs ++ cs
  | .call f xs => f :: xs

theorem bnd_congr {env env' : Nat → Value} {d : Nat} {x : Option Operand} (h : ∀ y ∈ oList x, evO env y = evO env' y) : bnd env d x = bnd env' d x := by
  cases x with
  | none => rfl
  | some y => simp only [bnd, h y (by simp [oList])]

theorem parts_congr {env env' : Nat → Value} {ps : List (Nat × Nat × Operand)} (h : ∀ y ∈ pList ps, evO env y = evO env' y) : evParts env ps = evParts env' ps := by
  unfold evParts
  apply List.map_congr_left
  intro p hp
  obtain ⟨o, s, x⟩ := p
  simp only [h x (by simp only [pList, List.mem_map]; exact ⟨_, hp, rfl⟩)]

theorem map_congr' {env env' : Nat → Value} {xs : List Operand} (h : ∀ y ∈ xs, evO env y = evO env' y) : xs.map (evO env) = xs.map (evO env') := List.map_congr_left h

theorem step_congr {P : Program} {T : Tab} {fl : Nat} {H : Heap} {env env' : Nat → Value} (lo : LO) (hsel : ∀ o, lo = .pr o → ∀ cs b, o.op ≠ .select cs b) (h : ∀ y ∈ lo.opnds, evO env y = evO env' y) : lo.step P T fl env H = lo.step P T fl env' H := by
  cases lo <;> simp only [LO.opnds] at h
  case pr o =>
    have e1 : execOp (evO env) o = execOp (evO env') o := execOp_congr o (hsel o rfl) fun x hx => h x (by simpa using hx)
    have e2 : o.op.operands.all (fun x => isSc (evO env x)) = o.op.operands.all (fun x => isSc (evO env' x)) := by
      rw [Bool.eq_iff_iff, Array.all_eq_true_iff_forall_mem, Array.all_eq_true_iff_forall_mem]
      constructor
      · intro q x hx
        rw [← h x (by simpa using hx)]
        exact q x hx
      · intro q x hx
        rw [h x (by simpa using hx)]
        exact q x hx
    simp only [LO.step, e1, e2]
  case build z ps => simp only [LO.step, parts_congr h]
  case row a b z ps => simp only [LO.step, parts_congr h]
  case rowM b z ps => simp only [LO.step, parts_congr h]
  case slcT x lo hi =>
    simp only [LO.step, h x (by simp), bnd_congr (x := lo) (env := env) (env' := env') fun y hy => h y (by simp [hy]), bnd_congr (x := hi) (env := env) (env' := env') fun y hy => h y (by simp [hy])]
  case slcA a b x lo hi =>
    simp only [LO.step, h x (by simp), bnd_congr (x := lo) (env := env) (env' := env') fun y hy => h y (by simp [hy]), bnd_congr (x := hi) (env := env) (env' := env') fun y hy => h y (by simp [hy])]
  case slc a x lo hi mx =>
    simp only [LO.step, h x (by simp), bnd_congr (x := lo) (env := env) (env' := env') fun y hy => h y (by simp [hy]), bnd_congr (x := hi) (env := env) (env' := env') fun y hy => h y (by simp [hy]), bnd_congr (x := mx) (env := env) (env' := env') fun y hy => h y (by simp [hy])]
  case mkf f fs cs => simp only [LO.step, map_congr' (xs := fs) fun y hy => h y (by simp [hy]), map_congr' (xs := cs) fun y hy => h y (by simp [hy])]
  case call f xs => simp only [LO.step, h f (by simp), map_congr' (xs := xs) fun y hy => h y (by simp [hy])]
  case pick c a b => simp only [LO.step, h c (by simp), h a (by simp), h b (by simp)]
  case alloc => rfl
  case lenA => rfl
  all_goals first
    | (rename_i x; simp only [LO.step, h x (by simp)]; done)
    | (rename_i x _; simp only [LO.step, h x (by simp)]; done)
    | (rename_i x y; simp only [LO.step, h x (by simp), h y (by simp)]; done)

/-- 0: nothing of memory; 1: reads; 2: may turn it. -/
def LO.cls (pf : FuncId → Bool) : LO → Nat
  | .load1 _ | .loadN _ _ | .b2s _ => 1
  | .call (.func k) _ => if pf k then 1 else 2
  | .call _ _ | .store _ _ _ | .alloc _ | .box _ | .row _ _ _ _ | .mk _ _ _ _ _ | .app _ _ _ _ | .cpy _ _ _ => 2
  | _ => 0

/-- A table whose rows of the given functions leave the memory as it is. -/
def PureOK (T : Tab) (pf : FuncId → Bool) : Prop := ∀ k, pf k = true → ∀ fl args H v H', T k fl args H = some (v, H') → H' = H

theorem cls0 {P : Program} {T : Tab} {fl : Nat} {pf : FuncId → Bool} {env : Nat → Value} {H H' : Heap} {v : Value} {lo : LO} (hc : lo.cls pf = 0) (hs : lo.step P T fl env H = some (v, H')) : H' = H ∧ ∀ K, lo.step P T fl env K = some (v, K) := by
  have key : H' = H → (∀ K, lo.step P T fl env K = (lo.step P T fl env H).map fun p => (p.1, K)) → H' = H ∧ ∀ K, lo.step P T fl env K = some (v, K) := fun h1 h2 => ⟨h1, fun K => by rw [h2 K, hs]; rfl⟩
  cases lo <;> simp only [LO.cls] at hc <;> try (simp at hc; done)
  case call f xs => cases f <;> simp at hc; split at hc <;> simp at hc
  all_goals
    refine key ?_ ?_
    · simp only [LO.step] at hs
      first
        | (simp only [Option.some.injEq, Prod.mk.injEq] at hs; exact hs.2.symm)
        | (simp only [Option.map_eq_some_iff, Prod.mk.injEq] at hs; obtain ⟨_, _, _, h⟩ := hs; exact h.symm)
        | ((repeat' (split at hs)) <;> first
             | (simp at hs; done)
             | (simp only [Option.some.injEq, Prod.mk.injEq] at hs; exact hs.2.symm)
             | (simp only [Option.map_eq_some_iff, Prod.mk.injEq] at hs; obtain ⟨_, _, _, h⟩ := hs; exact h.symm))
    · intro K
      simp only [LO.step]
      first
        | rfl
        | (simp only [Option.map_map]; rfl)
        | ((repeat' split) <;> first | rfl | (simp only [Option.map_map]; rfl))

theorem cls1 {P : Program} {T : Tab} {fl : Nat} {pf : FuncId → Bool} (hp : PureOK T pf) {env : Nat → Value} {H H' : Heap} {v : Value} {lo : LO} (hc : lo.cls pf = 1) (hs : lo.step P T fl env H = some (v, H')) : H' = H := by
  cases lo <;> simp only [LO.cls] at hc <;> try (simp at hc; done)
  case load1 x =>
    simp only [LO.step] at hs
    split at hs
    · simp only [Option.map_eq_some_iff, Prod.mk.injEq] at hs; obtain ⟨_, _, _, h⟩ := hs; exact h.symm
    · simp at hs
  case loadN n x =>
    simp only [LO.step] at hs
    split at hs
    · simp only [Option.map_eq_some_iff, Prod.mk.injEq] at hs; obtain ⟨_, _, _, h⟩ := hs; exact h.symm
    · simp at hs
  case b2s x =>
    simp only [LO.step] at hs
    split at hs
    · simp only [Option.some.injEq, Prod.mk.injEq] at hs; exact hs.2.symm
    · split at hs
      · simp only [Option.map_eq_some_iff, Prod.mk.injEq] at hs; obtain ⟨_, _, _, h⟩ := hs; exact h.symm
      · simp at hs
    · simp at hs
  case call f xs =>
    cases f with
    | func k =>
      simp only at hc
      split at hc
      · rename_i hk
        simp only [LO.step, evO] at hs
        exact hp k hk _ _ _ _ _ hs
      · simp at hc
    | _ => simp at hc

def tmpsOf (xs : List Operand) : List Nat := xs.filterMap fun | .tmp t => some t | _ => none
def ROp.reads (r : ROp) : List Nat := tmpsOf r.lo.opnds ++ (match r.guard with | some (t, _) => [t] | none => [])
def isSel (lo : LO) : Bool := match lo with
  | .pr o => (match o.op with | .select _ _ => true | _ => false)
  | _ => false

def indep (pf : FuncId → Bool) (x y : ROp) : Bool :=
  !isSel x.lo && !isSel y.lo &&
  (match x.dst with
   | some d => !y.reads.contains d && y.dst != some d
   | none => true) &&
  (match y.dst with
   | some d => !x.reads.contains d
   | none => true) &&
  (x.lo.cls pf == 0 || y.lo.cls pf == 0 || (x.lo.cls pf == 1 && y.lo.cls pf == 1))

def ROp.eff (P : Program) (T : Tab) (fl : Nat) (r : ROp) (env : Nat → Value) (H : Heap) : Option (Value × Heap) :=
  if guardOn env r.guard then r.lo.step P T fl env H else some (undef, H)

theorem step_eff {P : Program} {T : Tab} {fl : Nat} (r : ROp) (st : St) : r.step P T fl st = (r.eff P T fl st.env st.heap).map fun p => ⟨put st.env r.dst p.1, p.2⟩ := by
  unfold ROp.step ROp.eff
  split
  · cases r.lo.step P T fl st.env st.heap <;> rfl
  · rfl

theorem evO_put {env : Nat → Value} {d : Option Nat} {v : Value} {y : Operand} (h : ∀ t, d = some t → y ≠ .tmp t) : evO (put env d v) y = evO env y := by
  cases d with
  | none => rfl
  | some t =>
    cases y with
    | tmp s =>
      have : s ≠ t := fun e => h t rfl (by rw [e])
      simp [evO, Lev.put, upd, this]
    | _ => rfl

theorem eff_put {P : Program} {T : Tab} {fl : Nat} {r : ROp} (hsel : isSel r.lo = false) {d : Option Nat} (hd : ∀ t, d = some t → t ∉ r.reads) (env : Nat → Value) (H : Heap) (v : Value) : r.eff P T fl (put env d v) H = r.eff P T fl env H := by
  unfold ROp.eff
  have e1 : guardOn (put env d v) r.guard = guardOn env r.guard := by
    cases hg : r.guard with
    | none => rfl
    | some p =>
      obtain ⟨t, w⟩ := p
      cases d with
      | none => rfl
      | some s =>
        have : t ≠ s := fun e => hd s rfl (by subst e; simp [ROp.reads, hg])
        simp [guardOn, Lev.put, upd, this]
  have e2 : r.lo.step P T fl (put env d v) H = r.lo.step P T fl env H := by
    refine step_congr r.lo (fun o ho cs b h => by simp [ho, isSel, h] at hsel) fun y hy => evO_put fun t ht hyt => hd t ht ?_
    subst hyt
    exact List.mem_append_left _ (List.mem_filterMap.2 ⟨_, hy, rfl⟩)
  rw [e1, e2]

theorem eff0 {P : Program} {T : Tab} {fl : Nat} {pf : FuncId → Bool} {r : ROp} (hc : r.lo.cls pf = 0) {env : Nat → Value} {H H' : Heap} {v : Value} (h : r.eff P T fl env H = some (v, H')) : H' = H ∧ ∀ K, r.eff P T fl env K = some (v, K) := by
  unfold ROp.eff at *
  split at h
  · rename_i hg
    simp only [hg, if_true]
    exact cls0 hc h
  · rename_i hg
    simp only [hg, if_false, Bool.false_eq_true]
    simp only [Option.some.injEq, Prod.mk.injEq] at h
    obtain ⟨rfl, rfl⟩ := h
    exact ⟨rfl, fun _ => rfl⟩

theorem eff1 {P : Program} {T : Tab} {fl : Nat} {pf : FuncId → Bool} (hp : PureOK T pf) {r : ROp} (hc : r.lo.cls pf = 1) {env : Nat → Value} {H H' : Heap} {v : Value} (h : r.eff P T fl env H = some (v, H')) : H' = H := by
  unfold ROp.eff at *
  split at h
  · exact cls1 hp hc h
  · simp only [Option.some.injEq, Prod.mk.injEq] at h
    exact h.2.symm

theorem put_comm (env : Nat → Value) {d e : Option Nat} (v u : Value) (h : ∀ t, d = some t → e ≠ some t) : put (put env d v) e u = put (put env e u) d v := by
  cases d with
  | none => rfl
  | some t =>
    cases e with
    | none => rfl
    | some s =>
      have hne : s ≠ t := fun q => h t rfl (by rw [q])
      funext j
      simp only [Lev.put, upd]
      by_cases h1 : j = s
      · subst h1; simp [hne]
      · simp [h1]

theorem swap {P : Program} {T : Tab} {fl : Nat} {pf : FuncId → Bool} (hp : PureOK T pf) {x y : ROp} (hi : indep pf x y = true) {st s1 s2 : St} (h1 : x.step P T fl st = some s1) (h2 : y.step P T fl s1 = some s2) :
    ∃ s, y.step P T fl st = some s ∧ x.step P T fl s = some s2 := by
  unfold indep at hi
  simp only [Bool.and_eq_true, Bool.or_eq_true, Bool.not_eq_true', beq_iff_eq] at hi
  obtain ⟨⟨⟨⟨sx, sy⟩, hd⟩, he⟩, hcls⟩ := hi
  have d1 : ∀ t, x.dst = some t → t ∉ y.reads := fun t ht => by
    rw [ht] at hd
    simp at hd
    exact hd.1
  have d2 : ∀ t, x.dst = some t → y.dst ≠ some t := fun t ht => by
    rw [ht] at hd
    simp at hd
    exact hd.2
  have d3 : ∀ t, y.dst = some t → t ∉ x.reads := fun t ht => by
    rw [ht] at he
    simpa using he
  rw [step_eff] at h1 h2
  simp only [Option.map_eq_some_iff, Prod.exists] at h1 h2
  obtain ⟨v, K, hv, rfl⟩ := h1
  obtain ⟨u, L, hu, rfl⟩ := h2
  simp only at hu
  rw [eff_put sy d1] at hu
  rcases hcls with (hc | hc) | hc
  · obtain ⟨rfl, hall⟩ := eff0 hc hv
    refine ⟨⟨put st.env y.dst u, L⟩, by rw [step_eff, hu]; rfl, ?_⟩
    rw [step_eff]
    simp only
    rw [eff_put sx d3, hall L]
    simp only [Option.map_some, put_comm st.env v u d2]
  · obtain ⟨rfl, hall⟩ := eff0 hc hu
    refine ⟨⟨put st.env y.dst u, st.heap⟩, by rw [step_eff, hall st.heap]; rfl, ?_⟩
    rw [step_eff]
    simp only
    rw [eff_put sx d3, hv]
    simp only [Option.map_some, put_comm st.env v u d2]
  · have e1 := eff1 hp hc.1 hv
    subst e1
    have e2 := eff1 hp hc.2 hu
    subst e2
    refine ⟨⟨put st.env y.dst u, st.heap⟩, by rw [step_eff, hu]; rfl, ?_⟩
    rw [step_eff]
    simp only
    rw [eff_put sx d3, hv]
    simp only [Option.map_some, put_comm st.env v u d2]

/-- What may go ahead goes ahead. -/
theorem ahead {P : Program} {T : Tab} {fl : Nat} {pf : FuncId → Bool} (hp : PureOK T pf) {rops : List ROp} {i : Nat} {r : ROp} (hr : rops[i]? = some r) : ∀ (js post : List Nat) (st s' : St), (∀ j ∈ js, ∃ x, rops[j]? = some x ∧ indep pf x r = true) →
    runI P T fl rops (js ++ i :: post) st = some s' → ∃ s, r.step P T fl st = some s ∧ runI P T fl rops (js ++ post) s = some s'
  | [], post, st, s', _, h => by
    simp only [List.nil_append, runI, hr] at h
    split at h
    · rename_i s hs
      exact ⟨s, hs, h⟩
    · simp at h
  | j :: js, post, st, s', hj, h => by
    obtain ⟨x, hx, hi⟩ := hj j (by simp)
    simp only [List.cons_append, runI, hx] at h
    split at h
    · rename_i s1 h1
      obtain ⟨s, hs, hrest⟩ := ahead hp hr js post s1 s' (fun k hk => hj k (by simp [hk])) h
      obtain ⟨t, ht1, ht2⟩ := swap hp hi h1 hs
      refine ⟨t, ht1, ?_⟩
      simp only [List.cons_append, runI, hx, ht2]
      exact hrest
    · simp at h

/-- What each operation has ahead of it, as the bits of a number. -/
def maskOf (acc : List Nat) (o : Oper) : Nat := o.after.toList.foldl (fun s e => if Region.binds .any e then (s ||| (2 ^ e.on)) ||| acc.getD e.on 0 else s) 0
def masksFrom : List Oper → List Nat → List Nat
  | [], acc => acc
  | o :: l, acc => masksFrom l (acc ++ [maskOf acc o])

theorem maskOf_bit (acc : List Nat) (o : Oper) (j : Nat) (h : (maskOf acc o).testBit j = true) : ∃ e ∈ o.after, Region.binds .any e = true ∧ (e.on = j ∨ (acc.getD e.on 0).testBit j = true) := by
  unfold maskOf at h
  have key : ∀ (l : List Edge) (s : Nat), (l.foldl (fun s e => if Region.binds .any e then (s ||| (2 ^ e.on)) ||| acc.getD e.on 0 else s) s).testBit j = true → s.testBit j = true ∨ ∃ e ∈ l, Region.binds .any e = true ∧ (e.on = j ∨ (acc.getD e.on 0).testBit j = true) := by
    intro l
    induction l with
    | nil => intro s h; exact .inl h
    | cons e l ih =>
      intro s h
      rw [List.foldl_cons] at h
      rcases ih _ h with h1 | ⟨e', he', h2⟩
      · split at h1
        · rename_i hb
          rw [Nat.testBit_or, Nat.testBit_or, Nat.testBit_two_pow] at h1
          simp only [Bool.or_eq_true, decide_eq_true_eq] at h1
          rcases h1 with (h1 | h1) | h1
          · exact .inl h1
          · exact .inr ⟨e, by simp, hb, .inl h1⟩
          · exact .inr ⟨e, by simp, hb, .inr h1⟩
        · exact .inl h1
      · exact .inr ⟨e', by simp [he'], h2⟩
  rcases key _ _ h with h1 | ⟨e, he, h2⟩
  · simp at h1
  · exact ⟨e, by simpa using he, h2⟩

theorem masksFrom_get : ∀ (l : List Oper) (acc : List Nat) (i : Nat), (masksFrom l acc).length = acc.length + l.length ∧ (i < acc.length → (masksFrom l acc)[i]? = acc[i]?) ∧
    (∀ (k : Nat) (o : Oper), l[k]? = some o → (masksFrom l acc)[acc.length + k]? = some (maskOf ((masksFrom l acc).take (acc.length + k)) o))
  | [], acc, i => ⟨by simp [masksFrom], fun _ => rfl, fun k o h => by simp at h⟩
  | o :: l, acc, i => by
    obtain ⟨h1, h2, h3⟩ := masksFrom_get l (acc ++ [maskOf acc o]) i
    simp only [masksFrom]
    refine ⟨by rw [h1]; simp; omega, fun hi => by rw [h2 (by simp; omega), List.getElem?_append_left hi], fun k o' hk => ?_⟩
    cases k with
    | zero =>
      simp only [List.getElem?_cons_zero, Option.some.injEq] at hk
      subst hk
      obtain ⟨_, g2, _⟩ := masksFrom_get l (acc ++ [maskOf acc o]) acc.length
      have e1 := g2 (by simp)
      rw [Nat.add_zero, e1, List.getElem?_append_right (Nat.le_refl _)]
      simp only [Nat.sub_self, List.getElem?_cons_zero, Option.some.injEq]
      have e2 : (masksFrom l (acc ++ [maskOf acc o])).take acc.length = acc := by
        apply List.ext_getElem?
        intro n
        rw [List.getElem?_take]
        split
        · rename_i hn
          obtain ⟨_, g3, _⟩ := masksFrom_get l (acc ++ [maskOf acc o]) n
          rw [g3 (by simp; omega), List.getElem?_append_left hn]
        · rename_i hn
          rw [List.getElem?_eq_none (by omega)]
      rw [e2]
    | succ k =>
      have := h3 k o' (by simpa using hk)
      simp only [List.length_append, List.length_singleton] at this
      rw [show acc.length + (k + 1) = acc.length + 1 + k by omega]
      exact this

def masks (ops : Array Oper) : List Nat := masksFrom ops.toList []

/-- Ahead of what each operation must wait for, or out of its way. -/
def drawOK (pf : FuncId → Bool) (ops : Array Oper) (rops : List ROp) : Bool :=
  (List.range ops.size).all fun i =>
    ((ops.getD i default).after.all fun e => !Region.binds .any e || decide (e.on < i)) &&
    ((List.range i).all fun j => ((masks ops).getD i 0).testBit j || (match rops[j]?, rops[i]? with
      | some x, some r => indep pf x r
      | _, _ => false))

theorem mask_listed {ops : Array Oper} {listed : Array Bool} (hlt : ∀ (i : Nat) (o : Oper), ops[i]? = some o → ∀ e ∈ o.after, Region.binds .any e = true → e.on < i)
    (hcl : ∀ (k : Nat) (o : Oper), ops[k]? = some o → listed.getD k false = true → ∀ e ∈ o.after, Region.binds .any e = true → listed.getD e.on false = true) (j : Nat) :
    ∀ (n i : Nat) (o : Oper), i < n → ops[i]? = some o → (∀ e ∈ o.after, Region.binds .any e = true → listed.getD e.on false = true) → ((masks ops).getD i 0).testBit j = true → listed.getD j false = true
  | 0, i, o, hi, _, _, _ => by omega
  | n + 1, i, o, hi, ho, hdeps, hb => by
    obtain ⟨g1, _, g3⟩ := masksFrom_get ops.toList [] i
    have e1 := g3 i o (by simpa using ho)
    simp only [List.length_nil, Nat.zero_add] at e1
    unfold masks at hb
    rw [List.getD_eq_getElem?_getD, e1] at hb
    simp only [Option.getD_some] at hb
    obtain ⟨e, he, hbi, h⟩ := maskOf_bit _ _ _ hb
    rcases h with rfl | h
    · exact hdeps e he hbi
    · have hel := hlt i o ho e he hbi
      have his := (Array.getElem?_eq_some_iff.1 ho).1
      have heo : ops[e.on]? = some (ops[e.on]'(by omega)) := Array.getElem?_eq_getElem (by omega)
      refine mask_listed hlt hcl j n e.on _ (by omega) heo (hcl e.on _ heo (hdeps e he hbi)) ?_
      rw [List.getD_eq_getElem?_getD, List.getElem?_take, if_pos hel] at h
      unfold masks
      rw [List.getD_eq_getElem?_getD]
      exact h

def rem (n : Nat) (listed : Array Bool) : List Nat := (List.range n).filter fun i => !listed.getD i true

section
variable {P : Program} {T : Tab} {fl nt : Nat} {w0 w : World} {ρ : Nat → RB} {a : Act} {st st' : St} {ops : Array Oper} {rops : List ROp}

theorem rem_split {n i : Nat} {listed : Array Bool} (hi : i < n) (hl : listed.getD i true = false) (hsz : i < listed.size) :
    ∃ js post, rem n listed = js ++ i :: post ∧ (∀ j ∈ js, j < i ∧ listed.getD j true = false) ∧ rem n (listed.setIfInBounds i true) = js ++ post := by
  refine ⟨(List.range i).filter (fun k => !listed.getD k true), ((List.range' (i + 1) (n - (i + 1)))).filter (fun k => !listed.getD k true), ?_, ?_, ?_⟩
  · unfold rem
    have e : List.range n = List.range i ++ i :: List.range' (i + 1) (n - (i + 1)) := by
      rw [List.range_eq_range', List.range_eq_range']
      have : n = i + (1 + (n - (i + 1))) := by omega
      conv => lhs; rw [this]
      rw [← List.range'_append_1, Nat.add_comm 1, List.range'_succ]
      simp
    rw [e, List.filter_append, List.filter_cons, hl]
    simp
  · intro j hj
    simp only [List.mem_filter, List.mem_range, Bool.not_eq_true'] at hj
    exact hj
  · unfold rem
    have e : List.range n = List.range i ++ i :: List.range' (i + 1) (n - (i + 1)) := by
      rw [List.range_eq_range', List.range_eq_range']
      have : n = i + (1 + (n - (i + 1))) := by omega
      conv => lhs; rw [this]
      rw [← List.range'_append_1, Nat.add_comm 1, List.range'_succ]
      simp
    have hset : (listed.setIfInBounds i true).getD i true = true := by simp [Array.getD, hsz]
    rw [e, List.filter_append, List.filter_cons, hset]
    simp only [Bool.not_true, Bool.false_eq_true, if_false]
    congr 1
    · apply List.filter_congr
      intro k hk
      simp only [List.mem_range] at hk
      rw [getD_set_ne true (by omega)]
    · apply List.filter_congr
      intro k hk
      simp only [List.mem_range'_1] at hk
      rw [getD_set_ne true (by omega)]

theorem wpAny_lev (hT : Valid P w0 T) {pf : FuncId → Bool} (hp : PureOK T pf) (hR : RegRel P nt ops rops) (hd : drawOK pf ops rops = true) {Q : Exit → Act → World → Prop} :
    ∀ (fuel : Nat) (listed : Array Bool) (st : St) (a : Act) (w : World) (ρ : Nat → RB), listed.size = ops.size → (∀ (k : Nat) (o : Oper), ops[k]? = some o → listed.getD k false = true → ∀ e ∈ o.after, Region.binds .any e = true → listed.getD e.on false = true) → (rem ops.size listed).length ≤ fuel → SRel w0 ρ nt st a w → runI P T fl rops (rem ops.size listed) st = some st' →
    (∀ a' w' ρ', SRel w0 ρ' nt st' a' w' → Ext st.heap.length ρ w.heap st'.heap.length ρ' w'.heap → Q .normal a' w') → wpAny P .any ops Q fuel listed a w := by
  have hdd : ∀ i, i < ops.size → (∀ e ∈ (ops.getD i default).after, Region.binds .any e = true → e.on < i) ∧ ∀ j, j < i → ((masks ops).getD i 0).testBit j = true ∨ ∃ x r, rops[j]? = some x ∧ rops[i]? = some r ∧ indep pf x r = true := by
    intro i hi
    unfold drawOK at hd
    rw [List.all_eq_true] at hd
    have := hd i (by simpa using hi)
    simp only [Bool.and_eq_true, List.all_eq_true, Bool.or_eq_true, Array.all_eq_true_iff_forall_mem, Bool.not_eq_true', decide_eq_true_eq, List.mem_range] at this
    refine ⟨fun e he hb => (this.1 e he).resolve_left (by simp [hb]), fun j hj => ?_⟩
    rcases this.2 j hj with h | h
    · exact .inl h
    · split at h
      · rename_i x r hx hr
        exact .inr ⟨x, r, hx, hr, h⟩
      · simp at h
  have hready : ∀ listed : Array Bool, listed.size = ops.size → Region.ready .any ops listed = [] → rem ops.size listed = [] := by
    intro listed hsz hnil
    cases hrem : rem ops.size listed with
    | nil => rfl
    | cons i rest =>
      exfalso
      have hmem : ∀ k, k ∈ rem ops.size listed ↔ k < ops.size ∧ listed.getD k true = false := fun k => by simp [rem]
      have hi := (hmem i).1 (by rw [hrem]; simp)
      -- the first one is ready
      have hfirst : ∀ k, k < i → k < ops.size → listed.getD k true = true := by
        intro k hk hks
        cases hb : listed.getD k true with
        | true => rfl
        | false =>
          exfalso
          have hk2 := (hmem k).2 ⟨hks, hb⟩
          rw [hrem] at hk2
          have hsorted : (rem ops.size listed).Pairwise (· < ·) := List.Pairwise.filter _ List.pairwise_lt_range
          rw [hrem, List.pairwise_cons] at hsorted
          rcases List.mem_cons.1 hk2 with h | h
          · omega
          · have := hsorted.1 k h; omega
      have : i ∈ Region.ready .any ops listed := by
        rw [mem_ready]
        refine ⟨hi.2, ops[i]'hi.1, Array.getElem?_eq_getElem hi.1, fun e he hb => ?_⟩
        have hlt := (hdd i hi.1).1 e (by simpa [Array.getD, hi.1] using he) hb
        have h1 := hfirst e.on hlt (by omega)
        have h2 : e.on < listed.size := by omega
        simpa [Array.getD, h2] using h1
      rw [hnil] at this
      simp at this
  intro fuel
  induction fuel with
  | zero =>
    intro listed st a w ρ hsz hcl hlen S h hq
    have hnil : rem ops.size listed = [] := List.eq_nil_of_length_eq_zero (by omega)
    rw [hnil] at h
    simp only [runI, Option.some.injEq] at h
    subst h
    refine ⟨?_, hq a w ρ S (.refl _ _ _)⟩
    cases hrd : Region.ready .any ops listed with
    | nil => rfl
    | cons i rest =>
      exfalso
      have hi : i ∈ Region.ready .any ops listed := by rw [hrd]; simp
      rw [mem_ready] at hi
      obtain ⟨h1, o, ho, _⟩ := hi
      have : i ∈ rem ops.size listed := by simp only [rem, List.mem_filter, List.mem_range, Bool.not_eq_true']; exact ⟨(Array.getElem?_eq_some_iff.1 ho).1, h1⟩
      rw [hnil] at this
      simp at this
  | succ fuel ih =>
    intro listed st a w ρ hsz hcl hlen S h hq
    refine ⟨fun hnil => ?_, fun i hi => ?_⟩
    · rw [hready listed hsz hnil] at h
      simp only [runI, Option.some.injEq] at h
      subst h
      exact hq a w ρ S (.refl _ _ _)
    · rw [mem_ready] at hi
      obtain ⟨hl, o, ho, hdeps⟩ := hi
      have his := (Array.getElem?_eq_some_iff.1 ho).1
      obtain ⟨js, post, e1, e2, e3⟩ := rem_split his hl (by omega)
      obtain ⟨r, hr⟩ : ∃ r, rops[i]? = some r := ⟨_, List.getElem?_eq_getElem (by rw [hR.len]; exact his)⟩
      rw [e1] at h
      obtain ⟨s, hs, hrest⟩ := ahead hp hr js post st st' (fun j hj => by
        obtain ⟨q1, q2⟩ := e2 j hj
        rcases (hdd i his).2 j q1 with hdir | ⟨x, r', hx, hr', hind⟩
        · exfalso
          have := mask_listed (fun i o ho e he hb => (hdd i (Array.getElem?_eq_some_iff.1 ho).1).1 e (by
            have h1 := (Array.getElem?_eq_some_iff.1 ho)
            obtain ⟨h1, rfl⟩ := h1
            simpa [Array.getD, h1] using he) hb) hcl j (i + 1) i o (by omega) ho hdeps hdir
          have h2 : j < listed.size := by omega
          have q3 : listed[j] = true := by simpa [Array.getD, h2] using this
          have q4 : listed[j] = false := by simpa [Array.getD, h2] using q2
          rw [q3] at q4
          simp at q4
        · rw [hr] at hr'
          obtain rfl := Option.some.inj hr'
          exact ⟨x, hx, hind⟩) h
      refine rop_wp hT hR hr S hs fun a' w' ρ' S' X => ?_
      refine ih _ s a' w' ρ' (by simpa using hsz) (fun k ok hk hl2 e he hb => ?_) ?_ S' (by rw [e3]; exact hrest) fun a2 w2 ρ2 S2 X2 => hq a2 w2 ρ2 S2 (X.trans X2)
      · by_cases hki : k = i
        · subst hki
          rw [ho] at hk
          obtain rfl := Option.some.inj hk
          exact getD_set_true (hdeps e he hb)
        · rw [getD_set_ne false (fun h => hki h.symm)] at hl2
          exact getD_set_true (hcl k ok hk hl2 e he hb)
      · rw [e3]
        rw [e1] at hlen
        simp at hlen ⊢
        omega

theorem wp_region_draw_lev (hT : Valid P w0 T) {pf : FuncId → Bool} (hp : PureOK T pf) (hmix : P.follows .mixedOrders = true) (hR : RegRel P nt ops rops) (hd : drawOK pf ops rops = true) {id : Nat} {Q : Exit → Act → World → Prop} (S : SRel w0 ρ nt st a w) (h : runOps P T fl rops st = some st')
    (hq : ∀ a' w' ρ', SRel w0 ρ' nt st' a' w' → Ext st.heap.length ρ w.heap st'.heap.length ρ' w'.heap → Q .normal a' w') : (Code.region id ops true).wp P Q a w := by
  refine wp_region_any hmix ?_
  have hrem : rem ops.size (Array.replicate ops.size false) = List.range ops.size := by
    unfold rem
    rw [List.filter_eq_self]
    intro k hk
    simp only [List.mem_range] at hk
    simp [Array.getD, hk]
  have S2 : SRel w0 ρ nt st a { w with drawn := w.drawn + 1 } := ⟨S.rel.world rfl rfl rfl rfl, S.env, S.size, S.defers⟩
  refine wpAny_lev (fl := fl) hT hp hR hd ops.size _ st a _ ρ (by simp) (fun k o hk hl => by simp [Array.getD] at hl) (by rw [hrem]; simp) S2 ?_ fun a' w' ρ' S' X => hq a' w' ρ' S' X
  rw [hrem, List.range_eq_range']
  rw [runOps_runI rops rops 0 st (fun j => by simp), hR.len] at h
  exact h
end
end Go.Lev

/- From loaded operations to compact ones, and that the compact ones tell what the loaded ones do. -/
import Derived.Test.YtcaogimdpcaohaaDoorLev4
set_option linter.unusedVariables false
set_option linter.unusedSimpArgs false
namespace Go.Lev
open Go Go.RowKit

def okX : Operand → Bool
  | .const v => isSc v
  | .global _ => false
  | _ => true

def tyAgg (P : Program) (t : TypeId) : Option Bool := (P.underlying t).map fun
  | .struct _ | .array _ _ => true
  | _ => false
def tySize (P : Program) (t : TypeId) : Option Nat := (P.info? t).map (·.size)
def tyZero (P : Program) (t : TypeId) : Option Value := (P.info? t).bind (·.zero)
def tyIface (P : Program) (t : TypeId) : Bool := match P.underlying t with
  | some (.interface _) => true
  | _ => false

def places (P : Program) : List Field → Option (List (Nat × Nat))
  | [] => some []
  | f :: r => match tySize P f.type, places P r with
    | some n, some l => some ((f.offset, n) :: l)
    | _, _ => none

def resolveParts (pl : Nat → Option (Nat × Nat)) : List (Nat × Operand) → Option (List (Nat × Nat × Operand))
  | [] => some []
  | (i, x) :: r => match pl i, resolveParts pl r with
    | some (o, s), some l => some ((o, s, x) :: l)
    | _, _ => none

def cLoad (P : Program) (t : TypeId) (a : Operand) : Option LO :=
  match tyAgg P t, tySize P t with
  | some false, some _ => some (.load1 a)
  | some true, some n => some (.loadN n a)
  | _, _ => none
def cStore (P : Program) (t : TypeId) (a x : Operand) : Option LO := (tySize P t).map fun n => .store n a x
def cAlloc (P : Program) (t : TypeId) : Option LO :=
  match tyZero P t with
  | some z => if z.cells.toList.all isSc0 then some (.alloc z.cells.toList) else none
  | none => none
def cBuild (P : Program) (t : TypeId) (parts : List (Nat × Operand)) : Option LO :=
  match tyZero P t, P.underlying t with
  | some z, some (.struct fields) => if z.cells.toList.all isSc0 then
      match places P fields.toList with
      | some pl => (resolveParts (pl[·]?) parts).map (.build z.cells.toList)
      | none => none
    else none
  | some z, some (.array _ e) => if z.cells.toList.all isSc0 then
      match tySize P e with
      | some n => (resolveParts (fun i => some (i * n, n)) parts).map (.build z.cells.toList)
      | none => none
    else none
  | _, _ => none
def zeroRow (zero : List Value) (n : Nat) : List Value := (List.range n).map fun i => zero.getD (i % zero.length) undef
def cRow (P : Program) (m : Bool) (t : TypeId) (len : Nat) (parts : List (Nat × Operand)) : Option LO :=
  match P.underlying t with
  | some (.slice e) => match tySize P e, tyZero P e with
    | some n, some z => if z.cells.toList.all isSc0 ∧ z.cells.size = n ∧ n ≠ 0 ∧ len * n ≤ 16777216 then
        (resolveParts (fun i => some (i * n, n)) parts).map (if m then .rowM len (zeroRow z.cells.toList (len * n)) else .row n len (zeroRow z.cells.toList (len * n))) else none
    | _, _ => none
  | _ => none
def cFieldAddr (P : Program) (s : TypeId) (x : Operand) (f : Nat) : Option LO :=
  match P.underlying s with
  | some (.struct fields) => match fields[f]? with
    | some fd => match tySize P fd.type with
      | some n => if n = 0 then none else some (.fad fd.offset x)
      | none => none
    | none => none
  | _ => none
def cField (P : Program) (s : TypeId) (x : Operand) (f : Nat) : Option LO :=
  match P.underlying s with
  | some (.struct fields) => match fields[f]? with
    | some fd => match tyAgg P fd.type, tySize P fd.type with
      | some false, some _ => some (.fld1 fd.offset x)
      | some true, some n => some (.fldN fd.offset n x)
      | _, _ => none
    | none => none
  | _ => none
def cIndexAddr (P : Program) (t : TypeId) (x i : Operand) : Option LO :=
  match P.underlying t with
  | some (.array len e) => (tySize P e).map fun n => .iadA len n x i
  | some (.slice e) => (tySize P e).map fun n => .iadS n x i
  | _ => none
def cIndex (P : Program) (t : TypeId) (x i : Operand) : Option LO :=
  match P.underlying t with
  | some (.array len e) => match tyAgg P e, tySize P e with
    | some false, some 1 => some (.ix1 len x i)
    | some true, some n => some (.ixN len n x i)
    | _, _ => none
  | some .string => some (.ixS x i)
  | _ => none
def nilX : Operand → Bool
  | .const (.pointer none) | .const .nilIface | .const .nilFunc | .const (.slice none 0 0) => true
  | _ => false
def nilTy (P : Program) (t : TypeId) (y : Operand) : Bool :=
  match P.underlying t, y with
  | some (.pointer _), .const (.pointer none) => true
  | some (.interface _), .const .nilIface => true
  | some (.slice _), .const (.slice none 0 0) => true
  | some (.func _ _ _), .const .nilFunc => true
  | _, _ => false
def nilK (P : Program) (t : TypeId) : Nat :=
  match P.underlying t with
  | some (.pointer _) => 0
  | some (.interface _) => 1
  | some (.slice _) => 2
  | some (.func _ _ _) => 3
  | _ => 4
def nilFit (P : Program) (t : TypeId) (v : Value) : Bool := isKind (nilK P t) v
def notConst : Operand → Bool
  | .const _ => false
  | _ => true
def leavesF (P : Program) (rec : TypeId → Option (List (Nat × Nat))) : List Field → Option (List (Nat × Nat))
  | [] => some []
  | f :: fs => if f.name = "_" then none else match tySize P f.type, tyAgg P f.type, rec f.type, leavesF P rec fs with
    | some m, some _, some l, some r => if l.all (fun p => p.1 < m) then some (l.map (fun p => (f.offset + p.1, p.2)) ++ r) else none
    | _, _, _, _ => none
def leaves (P : Program) : Nat → TypeId → Option (List (Nat × Nat))
  | 0, _ => none
  | d + 1, t => match P.underlying t with
    | some (.int _) => some [(0, 0)]
    | some .bool => some [(0, 1)]
    | some .string => some [(0, 2)]
    | some (.struct fs) => if P.stoodInHeld t then none else leavesF P (leaves P d) fs.toList
    | some (.array n e) => match tySize P e, tyAgg P e, leaves P d e with
      | some m, some _, some l => if l.all (fun p => p.1 < m) then some ((List.range n).flatMap fun i => l.map (fun p => (i * m + p.1, p.2))) else none
      | _, _, _ => none
    | _ => none
def cBin (P : Program) (o : Oper) (op : BinOp) (t : TypeId) (x y : Operand) : Option LO :=
  if nilTy P t y && notConst x && (op == .eql || op == .neq) then some (.isNil (nilK P t) (op == .neq) x) else
  match P.underlying t with
  | some (.int _) | some .string => some (.bin op x y)
  | some .bool => some (.binB op x y)
  | some (.struct _) | some (.array _ _) => match leaves P 20 t with
    | some l => if P.eqGuardType P.depth t = false ∧ (op == .eql || op == .neq) then some (.eqA l (op == .neq) x y) else none
    | none => none
  | _ => some (.pr o)
def cConv (P : Program) (o : Oper) (src dst : TypeId) (x : Operand) : Option LO :=
  match P.underlying src, P.underlying dst with
  | some (.int _), some (.int k) => some (.convI k x)
  | some (.int _), some (.float k) => some (.convIF k x)
  | some .string, some .string => some (.convS x)
  | some (.float _), some _ => some (.pr o)
  | some (.slice e), some .string => match P.underlying e, tySize P e with
    | some (.int .u8), some 1 => some (.b2s x)
    | _, _ => none
  | _, _ => none
def cMkI (P : Program) (t : TypeId) (x : Operand) : Option LO :=
  match P.underlying t with
  | some (.interface _) => none
  | some _ => some (.mkI t x)
  | none => none
def cMk (P : Program) (t : TypeId) (l c : Operand) : Option LO :=
  match P.underlying t with
  | some (.slice e) => match P.info? e with
    | some i => match i.zero with
      | some z => if z.cells.toList.all isSc0 ∧ z.cells.size = i.size then some (.mk i.size i.bytes z.cells.toList l c) else none
      | none => none
    | none => none
  | _ => none
def cSlice (P : Program) (t : TypeId) (x : Operand) (lo hi mx : Option Operand) : Option LO :=
  match P.underlying t with
  | some .string => if mx.isNone then some (.slcT x lo hi) else none
  | some (.slice e) => (tySize P e).map fun n => .slc n x lo hi mx
  | some (.array len e) => if mx.isNone then (tySize P e).map fun n => .slcA len n x lo hi else none
  | _ => none
def cLen (P : Program) (ts : List TypeId) (xs : List Operand) : Option LO :=
  match ts, xs with
  | [t], [x] => match P.underlying t with
    | some .string => some (.lenT x)
    | some (.slice _) => some (.lenS x)
    | some (.array n _) => some (.lenA n)
    | _ => none
  | _, _ => none
def cApp (P : Program) (ts : List TypeId) (xs : List Operand) : Option LO :=
  match ts, xs with
  | [t, tx], [s, x] => match P.underlying t, P.underlying tx with
    | some (.slice e), some (.slice _) => match P.info? e with
      | some i => match i.zero with
        | some z => if z.cells.size = i.size then some (.app i.size i.bytes s x) else none
        | none => none
      | none => none
    | _, _ => none
  | _, _ => none
def cCpy (P : Program) (ts : List TypeId) (xs : List Operand) : Option LO :=
  match ts, xs with
  | [t, tx], [d, s] => match P.underlying t, P.underlying tx with
    | some (.slice e), some (.slice _) => match P.info? e with
      | some i => some (.cpy i.size d s)
      | none => none
    | _, _ => none
  | _, _ => none
def cCall (P : Program) (c : Call) : Option LO :=
  match c.callee with
  | .value f => some (.call f c.args.toList)
  | .builtin .len => cLen P c.argTypes.toList c.args.toList
  | .builtin .append => cApp P c.argTypes.toList c.args.toList
  | .builtin .copy => cCpy P c.argTypes.toList c.args.toList
  | .builtin .min => match c.args.toList with
    | [x, y] => some (.mn x y)
    | _ => none
  | .builtin .max => match c.args.toList with
    | [x, y] => some (.mx x y)
    | _ => none
  | _ => none

def compIn (P : Program) (m : Bool) (o : Oper) : Op → Option LO
  | .move x | .assign x => some (.mv x)
  | .nilCheck x => some (.nilchk x)
  | .pick c a b => some (.pick c a b)
  | .alloc e => cAlloc P e
  | .box _ x => some (.box x)
  | .build t parts => cBuild P t parts.toList
  | .buildSlice t len parts => cRow P m t len parts.toList
  | .load t a => cLoad P t a
  | .store t a x => cStore P t a x
  | .binOp op t x y _ => cBin P o op t x y
  | .unOp op _ x => some (.un op x)
  | .convert s d x => cConv P o s d x
  | .makeInterface t x => cMkI P t x
  | .makeFunc (.func f) first captured => some (.mkf f first.toList captured.toList)
  | .makeSlice t l c => cMk P t l c
  | .slice t x lo hi mx => if mx.isSome && hi.isNone then none else cSlice P t x lo hi mx
  | .fieldAddr s x f => cFieldAddr P s x f
  | .field s x f => cField P s x f
  | .indexAddr t x i => cIndexAddr P t x i
  | .index t x i => cIndex P t x i
  | .extract t i => some (.ext t i)
  | .call c => cCall P c
  | _ => none

def comp (P : Program) (m : Bool) (o : Oper) : Option LO := if o.op.operands.all okX then compIn P m o o.op else none

/-! ### Relations of frames -/
def ERel (N : Nat) (ρ : Nat → RB) (h : Array Obj) (env : Nat → Value) (a : Act) : Prop := ∀ t, VRel N ρ h (env t) (a.tmps.getD t undef)

theorem ERel.ev {N : Nat} {ρ : Nat → RB} {h : Array Obj} {env : Nat → Value} {a : Act} (E : ERel N ρ h env a) {x : Operand} (hx : okX x = true) : VRel N ρ h (evO env x) (a.eval x) := by
  cases x with
  | tmp t => exact E t
  | const v => exact .ofSc hx
  | func f => exact .func f #[] #[] #[] #[] rfl (fun i v v' h _ => by simp at h) rfl (fun i v v' h _ => by simp at h)
  | global g => simp [okX] at hx

theorem ERel.mono {N N' : Nat} {ρ ρ' : Nat → RB} {h h' : Array Obj} {env : Nat → Value} {a : Act} (E : ERel N ρ h env a) (x : Ext N ρ h N' ρ' h') : ERel N' ρ' h' env a := fun t => (E t).mono x

/-- What an operation that is no call comes to. -/
def NRes (w0 : World) (ρ : Nat → RB) (H : Heap) (w : World) (v : Value) (H' : Heap) (r : Result Next) : Prop :=
  ∃ n v' w' ρ', r = .ok n w' ∧ (n = .value v' ∨ (n = .skip ∧ v' = undef)) ∧ VRel H'.length ρ' w'.heap v v' ∧ Rel w0 ρ' H' w' ∧ Ext H.length ρ w.heap H'.length ρ' w'.heap

theorem Res.value {w0 w : World} {P : Program} {ρ : Nat → RB} {H H' : Heap} {v : Value} {s : Sem Value} (h : Res w0 ρ H w v H' (s.run P w)) :
    NRes w0 ρ H w v H' ((do pure (Next.value (← s)) : Sem Next).run P w) := by
  obtain ⟨v', w', ρ', h1, h2, h3, h4⟩ := h
  exact ⟨.value v', v', w', ρ', by simp [h1], .inl rfl, h2, h3, h4⟩

/-- Nothing of the world turns. -/
theorem Res.same {w0 w : World} {ρ : Nat → RB} {H : Heap} (R : Rel w0 ρ H w) {v v' : Value} {r : Result Value} (hr : r = .ok v' w) (hv : VRel H.length ρ w.heap v v') : Res w0 ρ H w v H r :=
  ⟨v', w, ρ, hr, hv, R, .refl _ _ _⟩

theorem run_sizeOf {P : Program} {t : TypeId} {n : Nat} (h : tySize P t = some n) (w : World) : (sizeOf t).run P w = .ok n w := by
  simp only [tySize, Option.map_eq_some_iff] at h
  obtain ⟨i, hi, rfl⟩ := h
  simp [sizeOf, typeInfo, hi]
theorem run_zeroValue {P : Program} {t : TypeId} {z : Value} (h : tyZero P t = some z) (w : World) : (zeroValue t).run P w = .ok z w := by
  simp only [tyZero, Option.bind_eq_some_iff] at h
  obtain ⟨i, hi, hz⟩ := h
  simp [zeroValue, typeInfo, hi, hz]
theorem run_isAgg {P : Program} {t : TypeId} {b : Bool} (h : tyAgg P t = some b) (w : World) : (isAgg t).run P w = .ok b w := by
  simp only [tyAgg, Option.map_eq_some_iff] at h
  obtain ⟨d, hd, hb⟩ := h
  unfold isAgg
  rw [Sem.run_bind, run_underlying hd]
  simp only [Result.andThen_ok]
  cases d <;> simp_all

section
variable {P : Program} {T : Tab} {fl : Nat} {env : Nat → Value} {H H' : Heap} {w0 w : World} {ρ : Nat → RB} {a : Act} {v : Value}

theorem load_res (R : Rel w0 ρ H w) (E : ERel H.length ρ w.heap env a) {t : TypeId} {x : Operand} {lo : LO} (hx : okX x = true) (hc : cLoad P t x = some lo) (hs : lo.step P T fl env H = some (v, H')) :
    Res w0 ρ H w v H' ((Instr.loadAt t (a.eval x)).run P w) := by
  have hv := E.ev hx
  unfold cLoad at hc
  split at hc
  · rename_i ha hn
    obtain rfl := Option.some.inj hc
    simp only [LO.step] at hs
    split at hs
    · rename_i ad hev
      simp only [Option.map_eq_some_iff, Prod.mk.injEq] at hs
      obtain ⟨u, hu, rfl, rfl⟩ := hs
      rw [hev] at hv
      obtain ⟨v', h1, h2, h3⟩ := R.rd1 hu hv
      refine Res.same R ?_ h3
      rw [h1]
      simp [Instr.loadAt, Instr.sureAddr, loadVar, run_isAgg ha, h2]
    · simp at hs
  · rename_i n ha hn
    obtain rfl := Option.some.inj hc
    simp only [LO.step] at hs
    split at hs
    · rename_i ad hev
      simp only [Option.map_eq_some_iff, Prod.mk.injEq] at hs
      obtain ⟨l, hl, rfl, rfl⟩ := hs
      rw [hev] at hv
      obtain ⟨b, hb, hsp, hle, rfl⟩ := rdN_some hl
      obtain ⟨_, hx'⟩ := hv.ptrAt (by rw [(R.box _ b hb).gen]; exact hsp)
      obtain ⟨l', k1, k2, k3⟩ := R.cellsAt hb ad.off n hle
      refine Res.same R (v' := .agg l'.toArray) ?_ k3.agg
      rw [hx']
      have := run_loadCells_list (P := P) w ⟨(ρ ad.block).blk, (ρ ad.block).base + ad.off, none⟩ l' (fun j u hj => by rw [Addr.add_lit]; exact k2 j u hj)
      rw [k1] at this
      simp [Instr.loadAt, Instr.sureAddr, loadVar, run_isAgg ha, run_sizeOf hn, this]
    · simp at hs
  · simp at hc

theorem store_res (R : Rel w0 ρ H w) (E : ERel H.length ρ w.heap env a) {t : TypeId} {x y : Operand} {lo : LO} (hx : okX x = true) (hy : okX y = true) (hc : cStore P t x y = some lo) (hs : lo.step P T fl env H = some (v, H')) :
    ∃ w' ρ', v = undef ∧ (Instr.storeAt t (a.eval x) (a.eval y)).run P w = .ok () w' ∧ Rel w0 ρ' H' w' ∧ Ext H.length ρ w.heap H'.length ρ' w'.heap := by
  have hv := E.ev hx
  have hv2 := (E.ev hy).cells
  simp only [cStore, Option.map_eq_some_iff] at hc
  obtain ⟨n, hn, rfl⟩ := hc
  simp only [LO.step] at hs
  split at hs
  · rename_i ad hev
    split at hs
    · rename_i hsz
      simp only [Option.map_eq_some_iff, Prod.mk.injEq] at hs
      obtain ⟨K, hK, rfl, rfl⟩ := hs
      rw [hev] at hv
      obtain ⟨w', ρ', h1, h2, h3, h4⟩ := R.wrN (P := P) hK hv hv2
      refine ⟨w', ρ', rfl, ?_, h3, h4⟩
      rw [h1]
      have hsz' : ¬ (a.eval y).cells.size ≠ n := by
        have := hv2.1
        simp only [Array.length_toList] at this
        omega
      simp only [Instr.storeAt, Instr.sureAddr, storeVar, Sem.run_bind, Sem.run_pure, Result.andThen_ok, run_sizeOf hn, hsz', if_false]
      exact h2
    · simp at hs
  · simp at hs

theorem alloc_res (R : Rel w0 ρ H w) {t : TypeId} {lo : LO} (hc : cAlloc P t = some lo) (hs : lo.step P T fl env H = some (v, H')) :
    Res w0 ρ H w v H' ((Instr.alloc t true (.tuple #[])).run P w) := by
  unfold cAlloc at hc
  split at hc
  · rename_i z hz
    split at hc
    · rename_i hall
      obtain rfl := Option.some.inj hc
      simp only [LO.step, Option.some.injEq, Prod.mk.injEq] at hs
      obtain ⟨rfl, rfl⟩ := hs
      have hl : LRel H.length ρ w.heap z.cells.toList z.cells.toList := .ofSc0 hall
      obtain ⟨ρ', h1, h2, h3⟩ := R.push { cells := z.cells.toList } rfl rfl z.cells t (fun j u hj => by
        obtain ⟨u', k1, k2⟩ := hl.get hj
        exact ⟨u', by simpa using k1, k2⟩)
      refine ⟨.pointer (some ⟨w.heap.size, 0, none⟩), _, ρ', by simp [Instr.alloc, run_zeroValue hz, newVar, newRow], ?_, h2, h3⟩
      exact .ptr _ _ _ _ (by simp) (by omega) fun _ => by rw [h1]
    · simp at hc
  · simp at hc

theorem box_res (R : Rel w0 ρ H w) (E : ERel H.length ρ w.heap env a) {t : TypeId} {x : Operand} (hx : okX x = true) (hs : (LO.box x).step P T fl env H = some (v, H')) :
    Res w0 ρ H w v H' ((Instr.box t (a.eval x)).run P w) := by
  simp only [LO.step, Option.some.injEq, Prod.mk.injEq] at hs
  obtain ⟨rfl, rfl⟩ := hs
  have hl := (E.ev hx).cells
  obtain ⟨ρ', h1, h2, h3⟩ := R.push { cells := (evO env x).cells.toList } rfl rfl (a.eval x).cells t (fun j u hj => by
    obtain ⟨u', k1, k2⟩ := hl.get hj
    exact ⟨u', by simpa using k1, k2⟩)
  refine ⟨.pointer (some ⟨w.heap.size, 0, none⟩), _, ρ', by simp [Instr.box, newVar, newRow], ?_, h2, h3⟩
  exact .ptr _ _ _ _ (by simp) (by omega) fun _ => by rw [h1]

end
end Go.Lev

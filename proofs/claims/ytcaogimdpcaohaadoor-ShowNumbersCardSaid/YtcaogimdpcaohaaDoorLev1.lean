/- A small interpreter of loaded Go code over a memory of numbered boxes (definitions). -/
import Derived.Calls
import Derived.LoopN
import Derived.Orders
import Derived.RowKit
import Derived.Below
import Derived.KernelRfl
import Derived.Deep.AppendSrc
import Derived.Deep.Upon
import Derived.Laws.CopyRow
namespace Go.Lev
open Go Go.RowKit

/-- A box: a variable or a row of cells. -/
structure Box where
  cells : List Value
  gen : Nat := 0
  row : Nat := 0
  ro : Bool := false

abbrev Heap := List Box

structure St where
  env : Nat → Value
  heap : Heap

def upd (env : Nat → Value) (d : Nat) (v : Value) : Nat → Value := fun j => if j = d then v else env j

def evO (env : Nat → Value) : Operand → Value
  | .tmp t => env t
  | .const v => v
  | .func f => .func (.func f) #[] #[]
  | .global _ => undef

/-- n cells from an address on. -/
def rdN (H : Heap) (a : Addr) (n : Nat) : Option (List Value) :=
  match H[a.block]? with
  | some b => if a.spot = some b.gen ∧ a.off + n ≤ b.cells.length then some ((b.cells.drop a.off).take n) else none
  | none => none

def rd1 (H : Heap) (a : Addr) : Option Value :=
  match H[a.block]? with
  | some b => if a.spot = some b.gen then b.cells[a.off]? else none
  | none => none

def setSeg (l : List Value) (off : Nat) (vs : List Value) : List Value := l.take off ++ vs ++ l.drop (off + vs.length)

def wrN (fl : Nat) (H : Heap) (a : Addr) (vs : List Value) : Option Heap :=
  match H[a.block]? with
  | some b => if a.spot = some b.gen ∧ b.ro = false ∧ fl ≤ a.block ∧ a.off + vs.length ≤ b.cells.length ∧ vs.all Value.oneCell' = true then
      some (H.set a.block { b with cells := setSeg b.cells a.off vs }) else none
  | none => none

/-- The value of a literal row of n elements that is handed to append at once: no box. -/
def marker (n : Nat) (cells : List Value) : Value := .func (.yield n) #[] cells.toArray

inductive LO where
  | mv (x : Operand)
  | nilchk (x : Operand)
  | pick (c a b : Operand)
  | bin (op : BinOp) (x y : Operand)
  | binB (op : BinOp) (x y : Operand)
  | un (op : UnOp) (x : Operand)
  | convI (k : IntKind) (x : Operand)
  | convIF (k : FloatKind) (x : Operand)
  | convS (x : Operand)
  | isNil (k : Nat) (neg : Bool) (x : Operand)
  | pr (o : Oper)
  | eqA (offs : List (Nat × Nat)) (neg : Bool) (x y : Operand)
  | b2s (x : Operand)
  | alloc (zero : List Value)
  | box (x : Operand)
  | build (zero : List Value) (parts : List (Nat × Nat × Operand))
  | row (esz len : Nat) (zero : List Value) (parts : List (Nat × Nat × Operand))
  | rowM (len : Nat) (zero : List Value) (parts : List (Nat × Nat × Operand))
  | load1 (a : Operand)
  | loadN (n : Nat) (a : Operand)
  | store (n : Nat) (a x : Operand)
  | fad (off : Nat) (a : Operand)
  | iadA (len esz : Nat) (a i : Operand)
  | iadS (esz : Nat) (s i : Operand)
  | fld1 (off : Nat) (x : Operand)
  | fldN (off n : Nat) (x : Operand)
  | ix1 (len : Nat) (x i : Operand)
  | ixN (len n : Nat) (x i : Operand)
  | ixS (x i : Operand)
  | slcT (x : Operand) (lo hi : Option Operand)
  | slc (esz : Nat) (x : Operand) (lo hi mx : Option Operand)
  | slcA (len esz : Nat) (x : Operand) (lo hi : Option Operand)
  | mkf (fn : FuncId) (first captured : List Operand)
  | mkI (t : TypeId) (x : Operand)
  | ext (x : Operand) (i : Nat)
  | lenT (x : Operand)
  | lenA (n : Nat)
  | lenS (x : Operand)
  | mn (x y : Operand)
  | mx (x y : Operand)
  | mk (esz bytes : Nat) (zero : List Value) (n c : Operand)
  | app (esz bytes : Nat) (s x : Operand)
  | cpy (esz : Nat) (d s : Operand)
  | call (f : Operand) (args : List Operand)

/-- Values that hold no address, one cell. -/
def isSc0 : Value → Bool
  | .bool _ | .int _ _ | .float _ _ | .string _ | .nilIface | .nilFunc | .pointer none => true
  | .slice none n c => n == 0 && c == 0
  | _ => false
def isSc : Value → Bool
  | .agg cs => cs.all isSc0
  | v => isSc0 v

def binInt (op : BinOp) (k : IntKind) (a b : Int) : Option Value :=
  match op with
  | .add => some (.int k (k.wrap (a + b)))
  | .sub => some (.int k (k.wrap (a - b)))
  | .mul => some (.int k (k.wrap (a * b)))
  | .quo => if b = 0 then none else some (.int k (k.wrap (a.tdiv b)))
  | .rem => if b = 0 then none else some (.int k (a.tmod b))
  | .and => some (.int k (k.wrap (BitVec.ofInt k.bits a &&& BitVec.ofInt k.bits b).toNat))
  | .or => some (.int k (k.wrap (BitVec.ofInt k.bits a ||| BitVec.ofInt k.bits b).toNat))
  | .xor => some (.int k (k.wrap (BitVec.ofInt k.bits a ^^^ BitVec.ofInt k.bits b).toNat))
  | .andNot => some (.int k (k.wrap (BitVec.ofInt k.bits a &&& ~~~ (BitVec.ofInt k.bits b)).toNat))
  | .eql => some (.bool (a == b))
  | .neq => some (.bool (a != b))
  | .lss => some (.bool (decide (a < b)))
  | .leq => some (.bool (decide (a ≤ b)))
  | .gtr => some (.bool (decide (a > b)))
  | .geq => some (.bool (decide (a ≥ b)))
  | _ => none

def binShift (op : BinOp) (k : IntKind) (a b : Int) : Option Value :=
  if b < 0 then none else
  match op with
  | .shl => some (.int k (k.wrap (a * 2 ^ (min b.toNat k.bits))))
  | .shr => some (.int k (a.fdiv (2 ^ (min b.toNat k.bits))))
  | _ => none

def binStr (op : BinOp) (a b : ByteArray) : Option Value :=
  match op with
  | .add => if a.size + b.size ≤ 4611686018427387904 then some (.string (a ++ b)) else none
  | .eql => some (.bool (a.toList == b.toList))
  | .neq => some (.bool (!(a.toList == b.toList)))
  | _ => none

def isShift : BinOp → Bool
  | .shl | .shr => true
  | _ => false

def binV (op : BinOp) (x y : Value) : Option Value :=
  match x, y with
  | .int k a, .int k' b => if isShift op then binShift op k a b else if k = k' then binInt op k a b else none
  | .string a, .string b => binStr op a b
  | _, _ => none

def binB (op : BinOp) (x y : Value) : Option Value :=
  match x, y with
  | .bool a, .bool b => match op with | .eql => some (.bool (a == b)) | .neq => some (.bool (!(a == b))) | _ => none
  | _, _ => none

def unV (op : UnOp) (x : Value) : Option Value :=
  match op, x with
  | .neg, .int k n => some (.int k (k.wrap (0 - n)))
  | .xor, .int k n => some (.int k (k.wrap (BitVec.ofInt k.bits (if k.signed then -1 else k.max) ^^^ BitVec.ofInt k.bits n).toNat))
  | .not, .bool b => some (.bool (!b))
  | _, _ => none

def isNilV : Value → Option Bool
  | .pointer none | .nilIface | .nilFunc | .slice none _ _ => some true
  | .pointer (some _) | .iface _ _ | .slice (some _) _ _ => some false
  | .func (.func _) _ _ => some false
  | _ => none

/-- Pointers, interface values, slices, functions. -/
def isKind : Nat → Value → Bool
  | 0, .pointer _ => true
  | 1, .nilIface => true
  | 1, .iface _ _ => true
  | 2, .slice _ _ _ => true
  | 3, .nilFunc => true
  | 3, .func _ _ _ => true
  | _, _ => false

def cellEq : Nat → Value → Value → Option Bool
  | 0, .int k a, .int k' b => if k = k' then some (a == b) else none
  | 1, .bool a, .bool b => some (a == b)
  | 2, .string a, .string b => some (a.toList == b.toList)
  | _, _, _ => none
def cmpAt (xs ys : List Value) (o : Nat × Nat) : Option Bool := match xs[o.1]?, ys[o.1]? with
  | some a, some b => cellEq o.2 a b
  | _, _ => none
def eqAll (xs ys : List Value) : List (Nat × Nat) → Option Bool
  | [] => some true
  | o :: l => match cmpAt xs ys o, eqAll xs ys l with
    | some a, some b => some (a && b)
    | _, _ => none

def byteOf? : Value → Option UInt8
  | .int .u8 n => some (UInt8.ofNat n.toNat)
  | _ => none
def bytesOf : List Value → Option (List UInt8)
  | [] => some []
  | v :: l => match byteOf? v, bytesOf l with
    | some b, some bs => some (b :: bs)
    | _, _ => none

/-- What comes of a Sem without memory, without a draw. -/
def pureRun (P : Program) {α : Type} : Sem α → Option α
  | .pure a => some a
  | .program k => pureRun P (k P)
  | _ => none

def fillL : List Value → List (Nat × Nat × Value) → Option (List Value)
  | cells, [] => some cells
  | cells, (off, size, v) :: rest =>
    if v.cells.size = size ∧ off + size ≤ cells.length then fillL (setSeg cells off v.cells.toList) rest else none

def aggCells : Value → Option (List Value)
  | .agg cs => some cs.toList
  | _ => none

def evParts (env : Nat → Value) (ps : List (Nat × Nat × Operand)) : List (Nat × Nat × Value) := ps.map fun (o, s, x) => (o, s, evO env x)

def bnd (env : Nat → Value) (d : Nat) : Option Operand → Option Nat
  | none => some d
  | some x => match evO env x with
    | .int _ n => if 0 ≤ n then some n.toNat else none
    | _ => none

/-- The cells of what is appended or copied. -/
def srcCells (esz : Nat) (H : Heap) : Value → Option (List Value × Nat)
  | .slice none _ _ => some ([], 0)
  | .slice (some a) n _ => (rdN H a (n * esz)).map (·, n)
  | .func (.yield n) _ cs => if cs.size = n * esz then some (cs.toList, n) else none
  | _ => none

abbrev Tab := Nat → Nat → List Value → Heap → Option (Value × Heap)

def appV (fl esz bytes : Nat) (H : Heap) (s x : Value) : Option (Value × Heap) :=
  match srcCells esz H x with
  | none => none
  | some (ys, m) =>
    if esz = 0 ∨ ys.all Value.oneCell' = false then none else
    match s with
    | .slice none 0 0 =>
      if m = 0 then some (.slice none 0 0, H)
      else if m * bytes ≤ 140737488355328 ∧ m ≤ 140737488355328 then some (.slice (some ⟨H.length, 0, some 0⟩) m esz, H ++ [{ cells := ys, gen := 0, row := esz }]) else none
    | .slice (some a) n c =>
      match H[a.block]? with
      | none => none
      | some b =>
        if a.spot = some b.gen ∧ c = esz ∧ b.row = esz ∧ b.ro = false ∧ fl ≤ a.block ∧ a.off + n * esz ≤ b.cells.length ∧ (n + m) * bytes ≤ 140737488355328 ∧ n + m ≤ 140737488355328 then
          if m = 0 then some (.slice (some a) n c, H)
          else some (.slice (some ⟨a.block, 0, some (b.gen + 1)⟩) (n + m) esz, H.set a.block { b with cells := (b.cells.drop a.off).take (n * esz) ++ ys, gen := b.gen + 1 })
        else none
    | _ => none

def LO.step (P : Program) (T : Tab) (fl : Nat) (env : Nat → Value) (H : Heap) : LO → Option (Value × Heap)
  | .mv x => some (evO env x, H)
  | .nilchk x => match evO env x with
    | .pointer (some a) => some (.pointer (some a), H)
    | _ => none
  | .pick c a b => match evO env c with
    | .bool t => some (if t then evO env a else evO env b, H)
    | _ => none
  | .bin op x y => (binV op (evO env x) (evO env y)).map (·, H)
  | .binB op x y => (Lev.binB op (evO env x) (evO env y)).map (·, H)
  | .un op x => (unV op (evO env x)).map (·, H)
  | .convI k x => match evO env x with
    | .int _ n => some (.int k (k.wrap n), H)
    | _ => none
  | .convIF k x => match evO env x with
    | .int _ n => some (.float k (k.nearest n), H)
    | _ => none
  | .convS x => match evO env x with
    | .string s => some (.string s, H)
    | _ => none
  | .isNil k neg x => if isKind k (evO env x) then (isNilV (evO env x)).map fun b => (.bool (if neg then !b else b), H) else none
  | .pr o => if o.op.operands.all (fun x => isSc (evO env x)) then
      match pureRun P (execOp (evO env) o) with
      | some (.value v) => if isSc v then some (v, H) else none
      | _ => none
    else none
  | .eqA offs neg x y => match evO env x, evO env y with
    | .agg xs, .agg ys => (eqAll xs.toList ys.toList offs).map fun b => (.bool (if neg then !b else b), H)
    | _, _ => none
  | .b2s x => match evO env x with
    | .slice none _ _ => some (.string ⟨#[]⟩, H)
    | .slice (some a) n _ => match rdN H a n with
      | some cs => (bytesOf cs).map fun bs => (.string ⟨bs.toArray⟩, H)
      | none => none
    | _ => none
  | .alloc zero => some (.pointer (some ⟨H.length, 0, some 0⟩), H ++ [{ cells := zero }])
  | .box x => some (.pointer (some ⟨H.length, 0, some 0⟩), H ++ [{ cells := (evO env x).cells.toList }])
  | .build zero parts => (fillL zero (evParts env parts)).map fun cs => (.agg cs.toArray, H)
  | .row esz len zero parts => (fillL zero (evParts env parts)).map fun cs => (.slice (some ⟨H.length, 0, some 0⟩) len esz, H ++ [{ cells := cs, gen := 0, row := esz }])
  | .rowM len zero parts => (fillL zero (evParts env parts)).map fun cs => (marker len cs, H)
  | .load1 a => match evO env a with
    | .pointer (some a) => (rd1 H a).map (·, H)
    | _ => none
  | .loadN n a => match evO env a with
    | .pointer (some a) => (rdN H a n).map fun cs => (.agg cs.toArray, H)
    | _ => none
  | .store n a x => match evO env a with
    | .pointer (some a) => if (evO env x).cells.size = n then (wrN fl H a (evO env x).cells.toList).map fun H' => (undef, H') else none
    | _ => none
  | .fad off a => match evO env a with
    | .pointer (some a) => some (.pointer (some ⟨a.block, a.off + off, a.spot⟩), H)
    | _ => none
  | .iadA len esz a i => match evO env a, evO env i with
    | .pointer (some a), .int _ n => if 0 ≤ n ∧ n < (len : Int) then some (.pointer (some ⟨a.block, a.off + n.toNat * esz, a.spot⟩), H) else none
    | _, _ => none
  | .iadS esz s i => match evO env s, evO env i with
    | .slice (some a) len _, .int _ n => if 0 ≤ n ∧ n < (len : Int) then some (.pointer (some ⟨a.block, a.off + n.toNat * esz, a.spot⟩), H) else none
    | _, _ => none
  | .fld1 off x => match evO env x with
    | .agg cs => (cs[off]?).map (·, H)
    | _ => none
  | .fldN off n x => match evO env x with
    | .agg cs => some (.agg (cs.extract off (off + n)), H)
    | _ => none
  | .ix1 len x i => match evO env x, evO env i with
    | .agg cs, .int _ n => if 0 ≤ n ∧ n < (len : Int) then (cs[n.toNat]?).map (·, H) else none
    | _, _ => none
  | .ixN len sz x i => match evO env x, evO env i with
    | .agg cs, .int _ n => if 0 ≤ n ∧ n < (len : Int) then some (.agg (cs.extract (n.toNat * sz) (n.toNat * sz + sz)), H) else none
    | _, _ => none
  | .ixS x i => match evO env x, evO env i with
    | .string s, .int _ n => if 0 ≤ n then (s.data.toList[n.toNat]?).map fun b => (.int .u8 b.toNat, H) else none
    | _, _ => none
  | .slcT x lo hi => match evO env x with
    | .string s => match bnd env 0 lo, bnd env s.size hi with
      | some l, some h => if l ≤ h ∧ h ≤ s.size then some (.string (s.extract l h), H) else none
      | _, _ => none
    | _ => none
  | .slc esz x lo hi mc => match evO env x with
    | .slice a n c => match bnd env 0 lo, bnd env n hi, bnd env n mc with
      | some l, some h, some m => if l ≤ h ∧ h ≤ n ∧ h ≤ m ∧ m ≤ n ∧ (c = esz ∨ a.isNone) then
          some (.slice (a.map fun a => ⟨a.block, a.off + l * esz, a.spot⟩) (h - l) c, H) else none
      | _, _, _ => none
    | _ => none
  | .slcA len esz x lo hi => match evO env x with
    | .pointer (some a) => match bnd env 0 lo, bnd env len hi with
      | some l, some h => if l ≤ h ∧ h ≤ len then some (.slice (some ⟨a.block, a.off + l * esz, a.spot⟩) (h - l) 0, H) else none
      | _, _ => none
    | _ => none
  | .mkf fn first captured => some (.func (.func fn) (first.map (evO env)).toArray (captured.map (evO env)).toArray, H)
  | .mkI t x => some (.iface t (evO env x), H)
  | .ext x i => match evO env x with
    | .tuple vs => (vs[i]?).map (·, H)
    | _ => none
  | .lenT x => match evO env x with
    | .string s => some (.int .i64 s.size, H)
    | _ => none
  | .lenA n => some (.int .i64 n, H)
  | .lenS x => match evO env x with
    | .slice _ n _ => some (.int .i64 n, H)
    | _ => none
  | .mn x y => match evO env x, evO env y with
    | .int k a, .int _ b => some (.int k (if b < a then b else a), H)
    | _, _ => none
  | .mx x y => match evO env x, evO env y with
    | .int k a, .int _ b => some (.int k (if b > a then b else a), H)
    | _, _ => none
  | .mk esz bytes zero n c => match evO env n, evO env c with
    | .int .i64 n, .int .i64 c => if n = c ∧ 0 ≤ n ∧ n * bytes ≤ 140737488355328 ∧ n ≤ 140737488355328 ∧ esz ≠ 0 ∧ zero.length = esz then
        some (.slice (some ⟨H.length, 0, some 0⟩) n.toNat esz, H ++ [{ cells := (List.range (n.toNat * esz)).map fun i => zero.getD (i % esz) undef, gen := 0, row := esz }]) else none
    | _, _ => none
  | .app esz bytes s x => appV fl esz bytes H (evO env s) (evO env x)
  | .cpy esz d s => match srcCells esz H (evO env s), evO env d with
    | some _, .slice none 0 0 => some (.int .i64 0, H)
    | some (ys, m), .slice (some a) n _ =>
      (wrN fl H a (ys.take (Nat.min m n * esz))).map fun H' => (.int .i64 (Nat.min m n : Nat), H')
    | _, _ => none
  | .call f args => match evO env f with
    | .func (.func f) first captured => T f fl (first.toList ++ args.map (evO env) ++ captured.toList) H
    | _ => none

structure ROp where
  guard : Option (Nat × Bool)
  dst : Option Nat
  lo : LO

def put (env : Nat → Value) (d : Option Nat) (v : Value) : Nat → Value :=
  match d with
  | some d => upd env d v
  | none => env

def guardOn (env : Nat → Value) : Option (Nat × Bool) → Bool
  | none => true
  | some (t, want) => match env t with
    | .bool b => b == want
    | _ => false

def ROp.step (P : Program) (T : Tab) (fl : Nat) (r : ROp) (st : St) : Option St :=
  if guardOn st.env r.guard then
    match r.lo.step P T fl st.env st.heap with
    | some (v, H) => some ⟨put st.env r.dst v, H⟩
    | none => none
  else some ⟨put st.env r.dst undef, st.heap⟩

def runOps (P : Program) (T : Tab) (fl : Nat) : List ROp → St → Option St
  | [], st => some st
  | r :: rest, st => match r.step P T fl st with
    | some st' => runOps P T fl rest st'
    | none => none

inductive Ex where
  | normal
  | ret
  | exit (id : Nat)
  deriving DecidableEq

inductive LC where
  | skip
  | ret
  | exit (id : Nat)
  | region (ops : List ROp)
  | seq (a b : LC)
  | cond (c : Operand) (a b : LC)
  | block (id : Nat) (body : LC)
  | loop (body : LC)

def iter (f : St → Option (Ex × St)) : Nat → St → Option (Ex × St)
  | 0, _ => none
  | k + 1, st => match f st with
    | some (.normal, st') => iter f k st'
    | r => r

def LC.run (P : Program) (T : Tab) (fl k : Nat) : LC → St → Option (Ex × St)
  | .skip, st => some (.normal, st)
  | .ret, st => some (.ret, st)
  | .exit id, st => some (.exit id, st)
  | .region ops, st => (runOps P T fl ops st).map fun st' => (.normal, st')
  | .seq a b, st => match a.run P T fl k st with
    | some (.normal, st') => b.run P T fl k st'
    | r => r
  | .cond c a b, st => match evO st.env c with
    | .bool t => if t then a.run P T fl k st else b.run P T fl k st
    | _ => none
  | .block id body, st => match body.run P T fl k st with
    | some (.exit id', st') => if id' = id then some (.normal, st') else some (.exit id', st')
    | r => r
  | .loop body, st => iter (body.run P T fl k) k st

end Go.Lev

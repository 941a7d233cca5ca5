/- A small interpreter of loaded Go code over a memory of numbered boxes (definitions). -/
import Derived.Calls
import Derived.LoopN
import Derived.Orders
import Derived.RowKit
import Derived.Below
import Derived.KernelRfl
import Derived.Deep.AppendSrc
import Derived.Deep.Upon
import Derived.Laws.CopyRow
import Derived.Laws.StructEq
import Derived.Laws.BytesArg
set_option linter.unusedVariables false
set_option linter.unusedSimpArgs false
set_option linter.constructorNameAsVariable false

namespace Go.Lev
open Go Go.RowKit

/-- A box: a variable or a row of cells. -/
structure Box where
  cells : List Value
  gen : Nat := 0
  row : Nat := 0
  ro : Bool := false

abbrev Heap := List Box

structure St where
  env : Nat → Value
  heap : Heap

def upd (env : Nat → Value) (d : Nat) (v : Value) : Nat → Value := fun j => if j = d then v else env j

def evO (env : Nat → Value) : Operand → Value
  | .tmp t => env t
  | .const v => v
  | .func f => .func (.func f) #[] #[]
  | .global _ => undef

/-- n cells from an address on. -/
def rdN (H : Heap) (a : Addr) (n : Nat) : Option (List Value) :=
  match H[a.block]? with
  | some b => if a.spot = some b.gen ∧ a.off + n ≤ b.cells.length then some ((b.cells.drop a.off).take n) else none
  | none => none

def rd1 (H : Heap) (a : Addr) : Option Value :=
  match H[a.block]? with
  | some b => if a.spot = some b.gen then b.cells[a.off]? else none
  | none => none

def setSeg (l : List Value) (off : Nat) (vs : List Value) : List Value := l.take off ++ vs ++ l.drop (off + vs.length)

def wrN (fl : Nat) (H : Heap) (a : Addr) (vs : List Value) : Option Heap :=
  match H[a.block]? with
  | some b => if a.spot = some b.gen ∧ b.ro = false ∧ fl ≤ a.block ∧ a.off + vs.length ≤ b.cells.length ∧ vs.all Value.oneCell' = true then
      some (H.set a.block { b with cells := setSeg b.cells a.off vs }) else none
  | none => none

/-- The value of a literal row of n elements that is handed to append at once: no box. -/
def marker (n : Nat) (cells : List Value) : Value := .func (.yield n) #[] cells.toArray

inductive LO where
  | mv (x : Operand)
  | nilchk (x : Operand)
  | pick (c a b : Operand)
  | bin (op : BinOp) (x y : Operand)
  | binB (op : BinOp) (x y : Operand)
  | un (op : UnOp) (x : Operand)
  | convI (k : IntKind) (x : Operand)
  | convIF (k : FloatKind) (x : Operand)
  | convS (x : Operand)
  | isNil (k : Nat) (neg : Bool) (x : Operand)
  | pr (o : Oper)
  | eqA (offs : List (Nat × Nat)) (neg : Bool) (x y : Operand)
  | b2s (x : Operand)
  | alloc (zero : List Value)
  | box (x : Operand)
  | build (zero : List Value) (parts : List (Nat × Nat × Operand))
  | row (esz len : Nat) (zero : List Value) (parts : List (Nat × Nat × Operand))
  | rowM (len : Nat) (zero : List Value) (parts : List (Nat × Nat × Operand))
  | load1 (a : Operand)
  | loadN (n : Nat) (a : Operand)
  | store (n : Nat) (a x : Operand)
  | fad (off : Nat) (a : Operand)
  | iadA (len esz : Nat) (a i : Operand)
  | iadS (esz : Nat) (s i : Operand)
  | fld1 (off : Nat) (x : Operand)
  | fldN (off n : Nat) (x : Operand)
  | ix1 (len : Nat) (x i : Operand)
  | ixN (len n : Nat) (x i : Operand)
  | ixS (x i : Operand)
  | slcT (x : Operand) (lo hi : Option Operand)
  | slc (esz : Nat) (x : Operand) (lo hi mx : Option Operand)
  | slcA (len esz : Nat) (x : Operand) (lo hi : Option Operand)
  | mkf (fn : FuncId) (first captured : List Operand)
  | mkI (t : TypeId) (x : Operand)
  | ext (x : Operand) (i : Nat)
  | lenT (x : Operand)
  | lenA (n : Nat)
  | lenS (x : Operand)
  | mn (x y : Operand)
  | mx (x y : Operand)
  | mk (esz bytes : Nat) (zero : List Value) (n c : Operand)
  | app (esz bytes : Nat) (s x : Operand)
  | cpy (esz : Nat) (d s : Operand)
  | call (f : Operand) (args : List Operand)
  | callP (l : List Nat) (f : Operand) (args : List Operand)

/-- Values that hold no address, one cell. -/
def isSc0 : Value → Bool
  | .bool _ | .int _ _ | .float _ _ | .string _ | .nilIface | .nilFunc | .pointer none => true
  | .slice none n c => n == 0 && c == 0
  | _ => false
def isSc : Value → Bool
  | .agg cs => cs.all isSc0
  | v => isSc0 v

def binInt (op : BinOp) (k : IntKind) (a b : Int) : Option Value :=
  match op with
  | .add => some (.int k (k.wrap (a + b)))
  | .sub => some (.int k (k.wrap (a - b)))
  | .mul => some (.int k (k.wrap (a * b)))
  | .quo => if b = 0 then none else some (.int k (k.wrap (a.tdiv b)))
  | .rem => if b = 0 then none else some (.int k (a.tmod b))
  | .and => some (.int k (k.wrap (BitVec.ofInt k.bits a &&& BitVec.ofInt k.bits b).toNat))
  | .or => some (.int k (k.wrap (BitVec.ofInt k.bits a ||| BitVec.ofInt k.bits b).toNat))
  | .xor => some (.int k (k.wrap (BitVec.ofInt k.bits a ^^^ BitVec.ofInt k.bits b).toNat))
  | .andNot => some (.int k (k.wrap (BitVec.ofInt k.bits a &&& ~~~ (BitVec.ofInt k.bits b)).toNat))
  | .eql => some (.bool (a == b))
  | .neq => some (.bool (a != b))
  | .lss => some (.bool (decide (a < b)))
  | .leq => some (.bool (decide (a ≤ b)))
  | .gtr => some (.bool (decide (a > b)))
  | .geq => some (.bool (decide (a ≥ b)))
  | _ => none

def binShift (op : BinOp) (k : IntKind) (a b : Int) : Option Value :=
  if b < 0 then none else
  match op with
  | .shl => some (.int k (k.wrap (a * 2 ^ (min b.toNat k.bits))))
  | .shr => some (.int k (a.fdiv (2 ^ (min b.toNat k.bits))))
  | _ => none

def binStr (op : BinOp) (a b : ByteArray) : Option Value :=
  match op with
  | .add => if a.size + b.size ≤ 4611686018427387904 then some (.string (a ++ b)) else none
  | .eql => some (.bool (a.toList == b.toList))
  | .neq => some (.bool (!(a.toList == b.toList)))
  | _ => none

def isShift : BinOp → Bool
  | .shl | .shr => true
  | _ => false

def binV (op : BinOp) (x y : Value) : Option Value :=
  match x, y with
  | .int k a, .int k' b => if isShift op then binShift op k a b else if k = k' then binInt op k a b else none
  | .string a, .string b => binStr op a b
  | _, _ => none

def binB (op : BinOp) (x y : Value) : Option Value :=
  match x, y with
  | .bool a, .bool b => match op with | .eql => some (.bool (a == b)) | .neq => some (.bool (!(a == b))) | _ => none
  | _, _ => none

def unV (op : UnOp) (x : Value) : Option Value :=
  match op, x with
  | .neg, .int k n => some (.int k (k.wrap (0 - n)))
  | .xor, .int k n => some (.int k (k.wrap (BitVec.ofInt k.bits (if k.signed then -1 else k.max) ^^^ BitVec.ofInt k.bits n).toNat))
  | .not, .bool b => some (.bool (!b))
  | _, _ => none

def isNilV : Value → Option Bool
  | .pointer none | .nilIface | .nilFunc | .slice none _ _ => some true
  | .pointer (some _) | .iface _ _ | .slice (some _) _ _ => some false
  | .func (.func _) _ _ => some false
  | _ => none

/-- Pointers, interface values, slices, functions. -/
def isKind : Nat → Value → Bool
  | 0, .pointer _ => true
  | 1, .nilIface => true
  | 1, .iface _ _ => true
  | 2, .slice _ _ _ => true
  | 3, .nilFunc => true
  | 3, .func _ _ _ => true
  | _, _ => false

def cellEq : Nat → Value → Value → Option Bool
  | 0, .int k a, .int k' b => if k = k' then some (a == b) else none
  | 1, .bool a, .bool b => some (a == b)
  | 2, .string a, .string b => some (a.toList == b.toList)
  | _, _, _ => none
def cmpAt (xs ys : List Value) (o : Nat × Nat) : Option Bool := match xs[o.1]?, ys[o.1]? with
  | some a, some b => cellEq o.2 a b
  | _, _ => none
def eqAll (xs ys : List Value) : List (Nat × Nat) → Option Bool
  | [] => some true
  | o :: l => match cmpAt xs ys o, eqAll xs ys l with
    | some a, some b => some (a && b)
    | _, _ => none

def byteOf? : Value → Option UInt8
  | .int .u8 n => some (UInt8.ofNat n.toNat)
  | _ => none
def bytesOf : List Value → Option (List UInt8)
  | [] => some []
  | v :: l => match byteOf? v, bytesOf l with
    | some b, some bs => some (b :: bs)
    | _, _ => none

/-- What comes of a Sem without memory, without a draw. -/
def pureRun (P : Program) {α : Type} : Sem α → Option α
  | .pure a => some a
  | .program k => pureRun P (k P)
  | _ => none

def fillL : List Value → List (Nat × Nat × Value) → Option (List Value)
  | cells, [] => some cells
  | cells, (off, size, v) :: rest =>
    if v.cells.size = size ∧ off + size ≤ cells.length then fillL (setSeg cells off v.cells.toList) rest else none

def aggCells : Value → Option (List Value)
  | .agg cs => some cs.toList
  | _ => none

def evParts (env : Nat → Value) (ps : List (Nat × Nat × Operand)) : List (Nat × Nat × Value) := ps.map fun (o, s, x) => (o, s, evO env x)

def bnd (env : Nat → Value) (d : Nat) : Option Operand → Option Nat
  | none => some d
  | some x => match evO env x with
    | .int _ n => if 0 ≤ n then some n.toNat else none
    | _ => none

/-- The cells of what is appended or copied. -/
def srcCells (esz : Nat) (H : Heap) : Value → Option (List Value × Nat)
  | .slice none _ _ => some ([], 0)
  | .slice (some a) n _ => (rdN H a (n * esz)).map (·, n)
  | .func (.yield n) _ cs => if cs.size = n * esz then some (cs.toList, n) else none
  | _ => none

abbrev Tab := Nat → Nat → List Value → Heap → Option (Value × Heap)

def appV (fl esz bytes : Nat) (H : Heap) (s x : Value) : Option (Value × Heap) :=
  match srcCells esz H x with
  | none => none
  | some (ys, m) =>
    if esz = 0 ∨ ys.all Value.oneCell' = false then none else
    match s with
    | .slice none 0 0 =>
      if m = 0 then some (.slice none 0 0, H)
      else if m * bytes ≤ 140737488355328 ∧ m ≤ 140737488355328 then some (.slice (some ⟨H.length, 0, some 0⟩) m esz, H ++ [{ cells := ys, gen := 0, row := esz }]) else none
    | .slice (some a) n c =>
      match H[a.block]? with
      | none => none
      | some b =>
        if a.spot = some b.gen ∧ c = esz ∧ b.row = esz ∧ b.ro = false ∧ fl ≤ a.block ∧ a.off + n * esz ≤ b.cells.length ∧ (n + m) * bytes ≤ 140737488355328 ∧ n + m ≤ 140737488355328 then
          if m = 0 then some (.slice (some a) n c, H)
          else some (.slice (some ⟨a.block, 0, some (b.gen + 1)⟩) (n + m) esz, H.set a.block { b with cells := (b.cells.drop a.off).take (n * esz) ++ ys, gen := b.gen + 1 })
        else none
    | _ => none

def LO.step (P : Program) (T : Tab) (fl : Nat) (env : Nat → Value) (H : Heap) : LO → Option (Value × Heap)
  | .mv x => some (evO env x, H)
  | .nilchk x => match evO env x with
    | .pointer (some a) => some (.pointer (some a), H)
    | _ => none
  | .pick c a b => match evO env c with
    | .bool t => some (if t then evO env a else evO env b, H)
    | _ => none
  | .bin op x y => (binV op (evO env x) (evO env y)).map (·, H)
  | .binB op x y => (Lev.binB op (evO env x) (evO env y)).map (·, H)
  | .un op x => (unV op (evO env x)).map (·, H)
  | .convI k x => match evO env x with
    | .int _ n => some (.int k (k.wrap n), H)
    | _ => none
  | .convIF k x => match evO env x with
    | .int _ n => some (.float k (k.nearest n), H)
    | _ => none
  | .convS x => match evO env x with
    | .string s => some (.string s, H)
    | _ => none
  | .isNil k neg x => if isKind k (evO env x) then (isNilV (evO env x)).map fun b => (.bool (if neg then !b else b), H) else none
  | .pr o => if o.op.operands.all (fun x => isSc (evO env x)) then
      match pureRun P (execOp (evO env) o) with
      | some (.value v) => if isSc v then some (v, H) else none
      | _ => none
    else none
  | .eqA offs neg x y => match evO env x, evO env y with
    | .agg xs, .agg ys => (eqAll xs.toList ys.toList offs).map fun b => (.bool (if neg then !b else b), H)
    | _, _ => none
  | .b2s x => match evO env x with
    | .slice none _ _ => some (.string ⟨#[]⟩, H)
    | .slice (some a) n _ => match rdN H a n with
      | some cs => (bytesOf cs).map fun bs => (.string ⟨bs.toArray⟩, H)
      | none => none
    | _ => none
  | .alloc zero => some (.pointer (some ⟨H.length, 0, some 0⟩), H ++ [{ cells := zero }])
  | .box x => some (.pointer (some ⟨H.length, 0, some 0⟩), H ++ [{ cells := (evO env x).cells.toList }])
  | .build zero parts => (fillL zero (evParts env parts)).map fun cs => (.agg cs.toArray, H)
  | .row esz len zero parts => (fillL zero (evParts env parts)).map fun cs => (.slice (some ⟨H.length, 0, some 0⟩) len esz, H ++ [{ cells := cs, gen := 0, row := esz }])
  | .rowM len zero parts => (fillL zero (evParts env parts)).map fun cs => (marker len cs, H)
  | .load1 a => match evO env a with
    | .pointer (some a) => (rd1 H a).map (·, H)
    | _ => none
  | .loadN n a => match evO env a with
    | .pointer (some a) => (rdN H a n).map fun cs => (.agg cs.toArray, H)
    | _ => none
  | .store n a x => match evO env a with
    | .pointer (some a) => if (evO env x).cells.size = n then (wrN fl H a (evO env x).cells.toList).map fun H' => (undef, H') else none
    | _ => none
  | .fad off a => match evO env a with
    | .pointer (some a) => some (.pointer (some ⟨a.block, a.off + off, a.spot⟩), H)
    | _ => none
  | .iadA len esz a i => match evO env a, evO env i with
    | .pointer (some a), .int _ n => if 0 ≤ n ∧ n < (len : Int) then some (.pointer (some ⟨a.block, a.off + n.toNat * esz, a.spot⟩), H) else none
    | _, _ => none
  | .iadS esz s i => match evO env s, evO env i with
    | .slice (some a) len _, .int _ n => if 0 ≤ n ∧ n < (len : Int) then some (.pointer (some ⟨a.block, a.off + n.toNat * esz, a.spot⟩), H) else none
    | _, _ => none
  | .fld1 off x => match evO env x with
    | .agg cs => (cs[off]?).map (·, H)
    | _ => none
  | .fldN off n x => match evO env x with
    | .agg cs => some (.agg (cs.extract off (off + n)), H)
    | _ => none
  | .ix1 len x i => match evO env x, evO env i with
    | .agg cs, .int _ n => if 0 ≤ n ∧ n < (len : Int) then (cs[n.toNat]?).map (·, H) else none
    | _, _ => none
  | .ixN len sz x i => match evO env x, evO env i with
    | .agg cs, .int _ n => if 0 ≤ n ∧ n < (len : Int) then some (.agg (cs.extract (n.toNat * sz) (n.toNat * sz + sz)), H) else none
    | _, _ => none
  | .ixS x i => match evO env x, evO env i with
    | .string s, .int _ n => if 0 ≤ n then (s.data.toList[n.toNat]?).map fun b => (.int .u8 b.toNat, H) else none
    | _, _ => none
  | .slcT x lo hi => match evO env x with
    | .string s => match bnd env 0 lo, bnd env s.size hi with
      | some l, some h => if l ≤ h ∧ h ≤ s.size then some (.string (s.extract l h), H) else none
      | _, _ => none
    | _ => none
  | .slc esz x lo hi mc => match evO env x with
    | .slice a n c => match bnd env 0 lo, bnd env n hi, bnd env n mc with
      | some l, some h, some m => if l ≤ h ∧ h ≤ n ∧ h ≤ m ∧ m ≤ n ∧ (c = esz ∨ a.isNone) then
          some (.slice (a.map fun a => ⟨a.block, a.off + l * esz, a.spot⟩) (h - l) c, H) else none
      | _, _, _ => none
    | _ => none
  | .slcA len esz x lo hi => match evO env x with
    | .pointer (some a) => match bnd env 0 lo, bnd env len hi with
      | some l, some h => if l ≤ h ∧ h ≤ len then some (.slice (some ⟨a.block, a.off + l * esz, a.spot⟩) (h - l) 0, H) else none
      | _, _ => none
    | _ => none
  | .mkf fn first captured => some (.func (.func fn) (first.map (evO env)).toArray (captured.map (evO env)).toArray, H)
  | .mkI t x => some (.iface t (evO env x), H)
  | .ext x i => match evO env x with
    | .tuple vs => (vs[i]?).map (·, H)
    | _ => none
  | .lenT x => match evO env x with
    | .string s => some (.int .i64 s.size, H)
    | _ => none
  | .lenA n => some (.int .i64 n, H)
  | .lenS x => match evO env x with
    | .slice _ n _ => some (.int .i64 n, H)
    | _ => none
  | .mn x y => match evO env x, evO env y with
    | .int k a, .int _ b => some (.int k (if b < a then b else a), H)
    | _, _ => none
  | .mx x y => match evO env x, evO env y with
    | .int k a, .int _ b => some (.int k (if b > a then b else a), H)
    | _, _ => none
  | .mk esz bytes zero n c => match evO env n, evO env c with
    | .int .i64 n, .int .i64 c => if n = c ∧ 0 ≤ n ∧ n * bytes ≤ 140737488355328 ∧ n ≤ 140737488355328 ∧ esz ≠ 0 ∧ zero.length = esz then
        some (.slice (some ⟨H.length, 0, some 0⟩) n.toNat esz, H ++ [{ cells := (List.range (n.toNat * esz)).map fun i => zero.getD (i % esz) undef, gen := 0, row := esz }]) else none
    | _, _ => none
  | .app esz bytes s x => appV fl esz bytes H (evO env s) (evO env x)
  | .cpy esz d s => match srcCells esz H (evO env s), evO env d with
    | some _, .slice none 0 0 => some (.int .i64 0, H)
    | some (ys, m), .slice (some a) n _ =>
      (wrN fl H a (ys.take (Nat.min m n * esz))).map fun H' => (.int .i64 (Nat.min m n : Nat), H')
    | _, _ => none
  | .call f args => match evO env f with
    | .func (.func f) first captured => T f fl (first.toList ++ args.map (evO env) ++ captured.toList) H
    | _ => none
  | .callP l f args => match evO env f with
    | .func (.func k) first captured => if l.contains k then T k fl (first.toList ++ args.map (evO env) ++ captured.toList) H else none
    | _ => none

structure ROp where
  guard : Option (Nat × Bool)
  dst : Option Nat
  lo : LO

def put (env : Nat → Value) (d : Option Nat) (v : Value) : Nat → Value :=
  match d with
  | some d => upd env d v
  | none => env

def guardOn (env : Nat → Value) : Option (Nat × Bool) → Bool
  | none => true
  | some (t, want) => match env t with
    | .bool b => b == want
    | _ => false

def ROp.step (P : Program) (T : Tab) (fl : Nat) (r : ROp) (st : St) : Option St :=
  if guardOn st.env r.guard then
    match r.lo.step P T fl st.env st.heap with
    | some (v, H) => some ⟨put st.env r.dst v, H⟩
    | none => none
  else some ⟨put st.env r.dst undef, st.heap⟩

def runOps (P : Program) (T : Tab) (fl : Nat) : List ROp → St → Option St
  | [], st => some st
  | r :: rest, st => match r.step P T fl st with
    | some st' => runOps P T fl rest st'
    | none => none

inductive Ex where
  | normal
  | ret
  | exit (id : Nat)
  deriving DecidableEq

inductive LC where
  | skip
  | ret
  | exit (id : Nat)
  | region (ops : List ROp)
  | seq (a b : LC)
  | cond (c : Operand) (a b : LC)
  | block (id : Nat) (body : LC)
  | loop (body : LC)
  | regionD (ops : List ROp) (prs : List (Nat × Nat))
  | split (kf idx : FuncId) (g : Operand) (t : Nat) (assign body : LC)

/-- A walk over a text's parts, one round a part: a: the cell that holds what is left; asep, asave: the cells of what parts them, and of how much of it is kept (0). -/
def splitRun (T : Tab) (fl idx : Nat) (rnd : Value → Heap → Option (Ex × Heap)) (asep a asave : Addr) : Nat → Heap → Option (Ex × Heap)
  | 0, _ => none
  | k + 1, H => match rd1 H a, rd1 H asep with
    | some (.string s), some (.string sep) => match T idx fl [.string s, .string sep] H with
      | some (.int .i64 i, H1) => match rd1 H1 a, rd1 H1 asave with
        | some (.string s1), some (.int .i64 z) =>
          if i < 0 then rnd (.string s1) H1
          else if z = 0 ∧ i.toNat ≤ s1.size ∧ s1.size ≤ 4611686018427387904 then match rnd (.string (s1.extract 0 i.toNat)) H1 with
            | some (.normal, H2) => match rd1 H2 a, rd1 H2 asep with
              | some (.string s2), some (.string sep2) => if i.toNat + sep2.size ≤ s2.size ∧ s2.size ≤ 4611686018427387904 then match wrN fl H2 a [.string (s2.extract (i.toNat + sep2.size) s2.size)] with
                  | some H3 => splitRun T fl idx rnd asep a asave k H3
                  | none => none
                else none
              | _, _ => none
            | r => r
          else none
        | _, _ => none
      | _ => none
    | _, _ => none

def LO.addr? : LO → Option Operand
  | .load1 a | .loadN _ a | .store _ a _ => some a
  | _ => none

/-- Two operations of a region lead to unlike boxes. -/
def apartAt (ops : List ROp) (env : Nat → Value) (p : Nat × Nat) : Bool := match ops[p.1]?, ops[p.2]? with
  | some x, some y => match x.lo.addr?, y.lo.addr? with
    | some a, some b => match evO env a, evO env b with
      | .pointer (some p), .pointer (some q) => p.block != q.block
      | _, _ => false
    | _, _ => false
  | _, _ => false

def hasSep (H : Heap) (a : Addr) : Bool := match rd1 H a with
  | some (.string sep) => sep.size != 0
  | _ => false

def iter (f : St → Option (Ex × St)) : Nat → St → Option (Ex × St)
  | 0, _ => none
  | k + 1, st => match f st with
    | some (.normal, st') => iter f k st'
    | r => r

def LC.run (P : Program) (T : Tab) (fl k : Nat) : LC → St → Option (Ex × St)
  | .skip, st => some (.normal, st)
  | .ret, st => some (.ret, st)
  | .exit id, st => some (.exit id, st)
  | .region ops, st => (runOps P T fl ops st).map fun st' => (.normal, st')
  | .seq a b, st => match a.run P T fl k st with
    | some (.normal, st') => b.run P T fl k st'
    | r => r
  | .cond c a b, st => match evO st.env c with
    | .bool t => if t then a.run P T fl k st else b.run P T fl k st
    | _ => none
  | .block id body, st => match body.run P T fl k st with
    | some (.exit id', st') => if id' = id then some (.normal, st') else some (.exit id', st')
    | r => r
  | .loop body, st => iter (body.run P T fl k) k st
  | .regionD ops prs, st => match runOps P T fl ops st with
    | some st' => if prs.all (apartAt ops st'.env) = true then some (.normal, st') else none
    | none => none
  | .split kf idx g t assign body, st => match evO st.env g with
    | .func (.func f) fs cs => if f = kf ∧ fs.size = 0 then match cs.toList with
        | [.pointer (some asep), .pointer (some a), .pointer (some asave)] => if hasSep st.heap asep = true then
            (splitRun T fl idx (fun v H => match assign.run P T fl k ⟨upd st.env t v, H⟩ with
              | some (.normal, s1) => match body.run P T fl k s1 with
                | some (ex, s2) => some (ex, s2.heap)
                | none => none
              | _ => none) asep a asave k st.heap).map fun r => (r.1, ⟨st.env, r.2⟩)
          else none
        | _ => none
      else none
    | _ => none

end Go.Lev


set_option linter.unusedVariables false
namespace Go.Lev
open Go Go.RowKit

/-- Where a box lies. -/
structure RB where
  blk : Nat
  base : Nat
  size : Nat
  gen : Nat
  row : Nat

inductive VRel (N : Nat) (ρ : Nat → RB) (h : Array Obj) : Value → Value → Prop
  | bool (b : Bool) : VRel N ρ h (.bool b) (.bool b)
  | int (k : IntKind) (n : Int) : VRel N ρ h (.int k n) (.int k n)
  | float (k : FloatKind) (n : Nat) : VRel N ρ h (.float k n) (.float k n)
  | string (s : ByteArray) : VRel N ρ h (.string s) (.string s)
  | nilIface : VRel N ρ h .nilIface .nilIface
  | nilFunc : VRel N ρ h .nilFunc .nilFunc
  | ptrNil : VRel N ρ h (.pointer none) (.pointer none)
  | ptr (id off g : Nat) (a : Addr) (hid : id < N) (hg : g ≤ (ρ id).gen) (ha : g = (ρ id).gen → a = ⟨(ρ id).blk, (ρ id).base + off, none⟩) :
      VRel N ρ h (.pointer (some ⟨id, off, some g⟩)) (.pointer (some a))
  | sliceNil : VRel N ρ h (.slice none 0 0) (.slice none 0 0)
  | slice (id off g n c c' : Nat) (a : Addr) (hid : id < N) (hg : g ≤ (ρ id).gen) (hn : n ≤ c')
      (ha : g = (ρ id).gen → (0 < c' → a = ⟨(ρ id).blk, (ρ id).base + off, none⟩) ∧ ((ρ id).row = c → c ≠ 0 → 0 < c' → (ρ id).base + off + c' * c ≤ (ρ id).size)) :
      VRel N ρ h (.slice (some ⟨id, off, some g⟩) n c) (.slice (some a) n c')
  | agg (cs cs' : Array Value) (hs : cs.size = cs'.size) (hc : ∀ (i : Nat) (v v' : Value), cs[i]? = some v → cs'[i]? = some v' → VRel N ρ h v v') :
      VRel N ρ h (.agg cs) (.agg cs')
  | tuple (cs cs' : Array Value) (hs : cs.size = cs'.size) (hc : ∀ (i : Nat) (v v' : Value), cs[i]? = some v → cs'[i]? = some v' → VRel N ρ h v v') :
      VRel N ρ h (.tuple cs) (.tuple cs')
  | iface (t : TypeId) (v v' : Value) (hv : VRel N ρ h v v') : VRel N ρ h (.iface t v) (.iface t v')
  | func (f : FuncId) (fs fs' cs cs' : Array Value) (hs : fs.size = fs'.size) (hf : ∀ (i : Nat) (v v' : Value), fs[i]? = some v → fs'[i]? = some v' → VRel N ρ h v v')
      (hs' : cs.size = cs'.size) (hc : ∀ (i : Nat) (v v' : Value), cs[i]? = some v → cs'[i]? = some v' → VRel N ρ h v v') :
      VRel N ρ h (.func (.func f) fs cs) (.func (.func f) fs' cs')
  | marker (cs cs' : Array Value) (k n c : Nat) (e : TypeId) (fr : Nat × Nat) (hk : k < h.size) (hn : n ≤ c) (hf : ∀ id, id < N → (ρ id).blk ≠ k) (hh : h[k]? = some (.cells cs' e fr)) (hs : cs.size = cs'.size)
      (hc : ∀ (i : Nat) (v v' : Value), cs[i]? = some v → cs'[i]? = some v' → VRel N ρ h v v') :
      VRel N ρ h (.func (.yield n) #[] cs) (.slice (some ⟨k, 0, none⟩) n c)

structure BoxRel (w0 : World) (N : Nat) (ρ : Nat → RB) (h : Array Obj) (id : Nat) (b : Box) : Prop where
  gen : (ρ id).gen = b.gen
  row : (ρ id).row = b.row
  fresh : b.ro = false → w0.heap.size ≤ (ρ id).blk
  cells : ∃ cs e fr, h[(ρ id).blk]? = some (.cells cs e fr) ∧ (b.ro = false → fr = (0, 0)) ∧ cs.size = (ρ id).size ∧
    ∀ (i : Nat) (v : Value), b.cells[i]? = some v → ∃ v', cs[(ρ id).base + i]? = some v' ∧ VRel N ρ h v v'

structure Rel (w0 : World) (ρ : Nat → RB) (H : Heap) (w : World) : Prop where
  below : Below w0.heap.size w0 w
  box : ∀ (id : Nat) (b : Box), H[id]? = some b → BoxRel w0 H.length ρ w.heap id b
  sep : ∀ (i j : Nat) (b c : Box), H[i]? = some b → H[j]? = some c → i ≠ j → (b.ro = false ∨ c.ro = false) → (ρ i).blk ≠ (ρ j).blk

structure Ext (N : Nat) (ρ : Nat → RB) (h : Array Obj) (N' : Nat) (ρ' : Nat → RB) (h' : Array Obj) : Prop where
  len : N ≤ N'
  gen : ∀ id, id < N → (ρ id).gen ≤ (ρ' id).gen ∧ ((ρ' id).gen = (ρ id).gen → ρ' id = ρ id)
  blk : ∀ id, id < N' → (id < N ∧ (ρ' id).blk = (ρ id).blk) ∨ h.size ≤ (ρ' id).blk
  size : h.size ≤ h'.size
  frame : ∀ k, k < h.size → (∀ id, id < N → (ρ id).blk ≠ k) → h'[k]? = h[k]?

theorem Ext.refl (N : Nat) (ρ : Nat → RB) (h : Array Obj) : Ext N ρ h N ρ h :=
  ⟨Nat.le_refl _, fun _ _ => ⟨Nat.le_refl _, fun _ => rfl⟩, fun _ h => .inl ⟨h, rfl⟩, Nat.le_refl _, fun _ _ _ => rfl⟩

theorem Ext.img {N N' : Nat} {ρ ρ' : Nat → RB} {h h' : Array Obj} (x : Ext N ρ h N' ρ' h') {k : Nat} (hk : k < h.size) (hf : ∀ id, id < N → (ρ id).blk ≠ k) :
    ∀ id, id < N' → (ρ' id).blk ≠ k := by
  intro id hid
  rcases x.blk id hid with ⟨h1, h2⟩ | h1
  · rw [h2]; exact hf id h1
  · omega

theorem Ext.trans {N N' N'' : Nat} {ρ ρ' ρ'' : Nat → RB} {h h' h'' : Array Obj} (x : Ext N ρ h N' ρ' h') (y : Ext N' ρ' h' N'' ρ'' h'') : Ext N ρ h N'' ρ'' h'' := by
  refine ⟨Nat.le_trans x.len y.len, fun id hid => ?_, fun id hid => ?_, Nat.le_trans x.size y.size, fun k hk hf => ?_⟩
  · have a := x.gen id hid
    have b := y.gen id (Nat.lt_of_lt_of_le hid x.len)
    refine ⟨Nat.le_trans a.1 b.1, fun e => ?_⟩
    have e1 : (ρ' id).gen = (ρ id).gen := by omega
    have e2 : (ρ'' id).gen = (ρ' id).gen := by omega
    rw [b.2 e2, a.2 e1]
  · rcases y.blk id hid with ⟨h1, h2⟩ | h1
    · rcases x.blk id h1 with ⟨h3, h4⟩ | h3
      · exact .inl ⟨h3, by rw [h2, h4]⟩
      · exact .inr (by rw [h2]; exact h3)
    · exact .inr (Nat.le_trans x.size h1)
  · rw [y.frame k (Nat.lt_of_lt_of_le hk x.size) (x.img hk hf), x.frame k hk hf]

theorem VRel.mono {N N' : Nat} {ρ ρ' : Nat → RB} {h h' : Array Obj} {v v' : Value} (r : VRel N ρ h v v') (x : Ext N ρ h N' ρ' h') : VRel N' ρ' h' v v' := by
  induction r with
  | bool b => exact .bool b
  | int k n => exact .int k n
  | float k n => exact .float k n
  | string s => exact .string s
  | nilIface => exact .nilIface
  | nilFunc => exact .nilFunc
  | ptrNil => exact .ptrNil
  | ptr id off g a hid hg ha =>
    have y := x.gen id hid
    refine .ptr id off g a (Nat.lt_of_lt_of_le hid x.len) (Nat.le_trans hg y.1) fun e => ?_
    have e1 : (ρ' id).gen = (ρ id).gen := by omega
    rw [y.2 e1]
    exact ha (by omega)
  | sliceNil => exact .sliceNil
  | slice id off g n c c' a hid hg hn ha =>
    have y := x.gen id hid
    refine .slice id off g n c c' a (Nat.lt_of_lt_of_le hid x.len) (Nat.le_trans hg y.1) hn fun e => ?_
    have e1 : (ρ' id).gen = (ρ id).gen := by omega
    rw [y.2 e1]
    exact ha (by omega)
  | agg cs cs' hs hc ih => exact .agg cs cs' hs ih
  | tuple cs cs' hs hc ih => exact .tuple cs cs' hs ih
  | iface t v v' hv ih => exact .iface t v v' ih
  | func f fs fs' cs cs' hs hf hs' hc ih1 ih2 => exact .func f fs fs' cs cs' hs ih1 hs' ih2
  | marker cs cs' k n c e fr hk hn hf hh hs hc ih =>
    exact .marker cs cs' k n c e fr (Nat.lt_of_lt_of_le hk x.size) hn (x.img hk hf) (by rw [x.frame k hk hf]; exact hh) hs ih

/-- A value's addresses lie among the first N boxes, and where these lie is told alike: what relates over more boxes relates over these. -/
theorem VRel.transfer {N N' : Nat} {ρ ρ' : Nat → RB} {h h' : Array Obj} {v a b : Value} (r : VRel N ρ h v a) (hN : N ≤ N') (hρ : ∀ id, id < N → ρ' id = ρ id)
    (s : VRel N' ρ' h' v b) : VRel N ρ h' v b := by
  induction r generalizing b with
  | bool x => cases s; exact .bool _
  | int k n => cases s; exact .int _ _
  | float k n => cases s; exact .float _ _
  | string x => cases s; exact .string _
  | nilIface => cases s; exact .nilIface
  | nilFunc => cases s; exact .nilFunc
  | ptrNil => cases s; exact .ptrNil
  | ptr id off g a hid hg ha =>
    cases s with
    | ptr _ _ _ a' _ hg' ha' =>
      rw [hρ id hid] at hg' ha'
      exact .ptr id off g a' hid hg' ha'
  | sliceNil => cases s; exact .sliceNil
  | slice id off g n c c' a hid hg hn ha =>
    cases s with
    | slice _ _ _ _ _ c'' a' _ hg' hn' ha' =>
      rw [hρ id hid] at hg' ha'
      exact .slice id off g n c c'' a' hid hg' hn' ha'
  | agg cs cs' hs hc ih =>
    cases s with
    | agg _ cs'' hs' hc' =>
      refine .agg cs cs'' hs' fun i v v' h1 h2 => ?_
      have hi : i < cs'.size := by
        have := (Array.getElem?_eq_some_iff.1 h1).1
        omega
      exact ih i v _ h1 (Array.getElem?_eq_getElem hi) (hc' i v v' h1 h2)
  | tuple cs cs' hs hc ih =>
    cases s with
    | tuple _ cs'' hs' hc' =>
      refine .tuple cs cs'' hs' fun i v v' h1 h2 => ?_
      have hi : i < cs'.size := by
        have := (Array.getElem?_eq_some_iff.1 h1).1
        omega
      exact ih i v _ h1 (Array.getElem?_eq_getElem hi) (hc' i v v' h1 h2)
  | iface t v v' hv ih =>
    cases s with
    | iface _ _ v'' hv' => exact .iface t v v'' (ih hv')
  | func f fs fs' cs cs' hs hf hs' hc ih1 ih2 =>
    cases s with
    | func _ _ fs'' _ cs'' gs gf gs' gc =>
      refine .func f fs fs'' cs cs'' gs (fun i v v' h1 h2 => ?_) gs' fun i v v' h1 h2 => ?_
      · have hi : i < fs'.size := by
          have := (Array.getElem?_eq_some_iff.1 h1).1
          omega
        exact ih1 i v _ h1 (Array.getElem?_eq_getElem hi) (gf i v v' h1 h2)
      · have hi : i < cs'.size := by
          have := (Array.getElem?_eq_some_iff.1 h1).1
          omega
        exact ih2 i v _ h1 (Array.getElem?_eq_getElem hi) (gc i v v' h1 h2)
  | marker cs cs' k n c e fr hk hn hf hh hs hc ih =>
    cases s with
    | marker _ cs'' k' n' c' e' fr' hk' hn' hf' hh' hs' hc' =>
      refine .marker cs cs'' k' _ c' e' fr' hk' hn' (fun id hid => ?_) hh' hs' fun i v v' h1 h2 => ?_
      · rw [← hρ id hid]; exact hf' id (Nat.lt_of_lt_of_le hid hN)
      · have hi : i < cs'.size := by
          have := (Array.getElem?_eq_some_iff.1 h1).1
          omega
        exact ih i v _ h1 (Array.getElem?_eq_getElem hi) (hc' i v v' h1 h2)

theorem VRel.sc0 {N : Nat} {ρ : Nat → RB} {h : Array Obj} {v v' : Value} (r : VRel N ρ h v v') (hs : isSc0 v = true) : v' = v := by
  cases r <;> first | rfl | simp [isSc0] at hs

theorem VRel.sc {N : Nat} {ρ : Nat → RB} {h : Array Obj} {v v' : Value} (r : VRel N ρ h v v') (hs : isSc v = true) : v' = v := by
  cases r with
  | agg cs cs' hz hc =>
    congr 1
    apply Array.ext
    · exact hz.symm
    · intro i h1 h2
      have := hc i cs[i] cs'[i] (Array.getElem?_eq_getElem h2) (Array.getElem?_eq_getElem h1)
      exact this.sc0 (by simp only [isSc, Array.all_eq_true] at hs; exact hs i h2)
  | _ => first | rfl | simp [isSc, isSc0] at hs

theorem VRel.ofSc0 {N : Nat} {ρ : Nat → RB} {h : Array Obj} {v : Value} (hs : isSc0 v = true) : VRel N ρ h v v := by
  cases v with
  | bool b => exact .bool _
  | int k n => exact .int _ _
  | float k n => exact .float _ _
  | string s => exact .string _
  | nilIface => exact .nilIface
  | nilFunc => exact .nilFunc
  | pointer a => cases a with
    | none => exact .ptrNil
    | some a => simp [isSc0] at hs
  | slice a n c => cases a with
    | none =>
      simp [isSc0] at hs
      obtain ⟨rfl, rfl⟩ := hs
      exact .sliceNil
    | some a => simp [isSc0] at hs
  | _ => simp [isSc0] at hs

theorem VRel.ofSc {N : Nat} {ρ : Nat → RB} {h : Array Obj} {v : Value} (hs : isSc v = true) : VRel N ρ h v v := by
  cases v with
  | agg cs =>
    refine .agg cs cs rfl fun i v v' h1 h2 => ?_
    rw [h1] at h2
    obtain rfl := Option.some.inj h2
    have hi := (Array.getElem?_eq_some_iff.1 h1)
    obtain ⟨hi, rfl⟩ := hi
    simp only [isSc, Array.all_eq_true] at hs
    exact .ofSc0 (hs i hi)
  | _ => exact .ofSc0 (by simpa [isSc] using hs)

theorem VRel.oneCell {N : Nat} {ρ : Nat → RB} {h : Array Obj} {v v' : Value} (r : VRel N ρ h v v') : v'.oneCell' = v.oneCell' := by
  cases r <;> rfl

theorem VRel.undef (N : Nat) (ρ : Nat → RB) (h : Array Obj) : VRel N ρ h undef undef :=
  .tuple #[] #[] rfl fun i v v' h1 _ => by simp at h1

/-- Lists of related values. -/
def LRel (N : Nat) (ρ : Nat → RB) (h : Array Obj) (l l' : List Value) : Prop := l.length = l'.length ∧ ∀ (i : Nat) (v v' : Value), l[i]? = some v → l'[i]? = some v' → VRel N ρ h v v'

theorem LRel.mono {N N' : Nat} {ρ ρ' : Nat → RB} {h h' : Array Obj} {l l' : List Value} (r : LRel N ρ h l l') (x : Ext N ρ h N' ρ' h') : LRel N' ρ' h' l l' :=
  ⟨r.1, fun i v v' a b => (r.2 i v v' a b).mono x⟩
theorem LRel.nil (N : Nat) (ρ : Nat → RB) (h : Array Obj) : LRel N ρ h [] [] := ⟨rfl, fun i v v' a _ => by simp at a⟩
theorem LRel.cons {N : Nat} {ρ : Nat → RB} {h : Array Obj} {v v' : Value} {l l' : List Value} (r : VRel N ρ h v v') (s : LRel N ρ h l l') : LRel N ρ h (v :: l) (v' :: l') := by
  refine ⟨by simp [s.1], fun i a b h1 h2 => ?_⟩
  cases i with
  | zero => simp at h1 h2; subst h1; subst h2; exact r
  | succ i => exact s.2 i a b (by simpa using h1) (by simpa using h2)
theorem LRel.get {N : Nat} {ρ : Nat → RB} {h : Array Obj} {l l' : List Value} (r : LRel N ρ h l l') {i : Nat} {v : Value} (hi : l[i]? = some v) : ∃ v', l'[i]? = some v' ∧ VRel N ρ h v v' := by
  have h1 := (List.getElem?_eq_some_iff.1 hi).1
  have h2 : i < l'.length := by have := r.1; omega
  exact ⟨l'[i], List.getElem?_eq_getElem h2, r.2 i v _ hi (List.getElem?_eq_getElem h2)⟩
theorem LRel.app {N : Nat} {ρ : Nat → RB} {h : Array Obj} {l l' m m' : List Value} (r : LRel N ρ h l l') (s : LRel N ρ h m m') : LRel N ρ h (l ++ m) (l' ++ m') := by
  refine ⟨by simp [r.1, s.1], fun i a b h1 h2 => ?_⟩
  rw [List.getElem?_append] at h1 h2
  rw [r.1] at h1
  split at h1
  · rename_i hlt
    rw [if_pos hlt] at h2
    exact r.2 i a b h1 h2
  · rename_i hlt
    rw [if_neg hlt] at h2
    exact s.2 _ a b h1 h2
theorem LRel.take {N : Nat} {ρ : Nat → RB} {h : Array Obj} {l l' : List Value} (r : LRel N ρ h l l') (n : Nat) : LRel N ρ h (l.take n) (l'.take n) := by
  refine ⟨by simp [r.1], fun i a b h1 h2 => ?_⟩
  rw [List.getElem?_take] at h1 h2
  split at h1
  · rename_i hlt
    rw [if_pos hlt] at h2
    exact r.2 i a b h1 h2
  · simp at h1
theorem LRel.drop {N : Nat} {ρ : Nat → RB} {h : Array Obj} {l l' : List Value} (r : LRel N ρ h l l') (n : Nat) : LRel N ρ h (l.drop n) (l'.drop n) := by
  refine ⟨by simp [r.1], fun i a b h1 h2 => ?_⟩
  rw [List.getElem?_drop] at h1 h2
  exact r.2 _ a b h1 h2
theorem LRel.seg {N : Nat} {ρ : Nat → RB} {h : Array Obj} {l l' vs vs' : List Value} (r : LRel N ρ h l l') (s : LRel N ρ h vs vs') (off : Nat) : LRel N ρ h (setSeg l off vs) (setSeg l' off vs') := by
  unfold setSeg
  rw [s.1]
  exact ((r.take _).app s).app (r.drop _)
theorem LRel.ofSc0 {N : Nat} {ρ : Nat → RB} {h : Array Obj} {l : List Value} (hs : l.all isSc0 = true) : LRel N ρ h l l := by
  refine ⟨rfl, fun i a b h1 h2 => ?_⟩
  rw [h1] at h2
  obtain rfl := Option.some.inj h2
  exact .ofSc0 (List.all_eq_true.1 hs _ (List.mem_of_getElem? h1))
theorem LRel.agg {N : Nat} {ρ : Nat → RB} {h : Array Obj} {l l' : List Value} (r : LRel N ρ h l l') : VRel N ρ h (.agg l.toArray) (.agg l'.toArray) :=
  .agg _ _ (by simpa using r.1) fun i v v' h1 h2 => r.2 i v v' (by simpa using h1) (by simpa using h2)
theorem VRel.cells {N : Nat} {ρ : Nat → RB} {h : Array Obj} {v v' : Value} (r : VRel N ρ h v v') : LRel N ρ h v.cells.toList v'.cells.toList := by
  cases r with
  | agg cs cs' hs hc => exact ⟨by simpa [Value.cells] using hs, fun i a b h1 h2 => hc i a b (by simpa [Value.cells] using h1) (by simpa [Value.cells] using h2)⟩
  | bool b => exact .cons (.bool b) (.nil _ _ _)
  | int k n => exact .cons (.int k n) (.nil _ _ _)
  | float k n => exact .cons (.float k n) (.nil _ _ _)
  | string s => exact .cons (.string s) (.nil _ _ _)
  | nilIface => exact .cons .nilIface (.nil _ _ _)
  | nilFunc => exact .cons .nilFunc (.nil _ _ _)
  | ptrNil => exact .cons .ptrNil (.nil _ _ _)
  | ptr id off g a h1 h2 h3 => exact .cons (.ptr id off g a h1 h2 h3) (.nil _ _ _)
  | sliceNil => exact .cons .sliceNil (.nil _ _ _)
  | slice id off g n c c' a h1 h2 h3 h4 => exact .cons (.slice id off g n c c' a h1 h2 h3 h4) (.nil _ _ _)
  | tuple cs cs' hs hc => exact .cons (.tuple cs cs' hs hc) (.nil _ _ _)
  | iface t v v' hv => exact .cons (.iface t v v' hv) (.nil _ _ _)
  | func f a b c d e g i j => exact .cons (.func f a b c d e g i j) (.nil _ _ _)
  | marker a b c d e f g i j k l m n => exact .cons (.marker a b c d e f g i j k l m n) (.nil _ _ _)

end Go.Lev


set_option linter.unusedVariables false
namespace Go.Lev
open Go Go.RowKit

theorem Rel.boxBlk {w0 w : World} {ρ : Nat → RB} {H : Heap} (r : Rel w0 ρ H w) {id : Nat} {b : Box} (hb : H[id]? = some b) : (ρ id).blk < w.heap.size := by
  obtain ⟨cs, e, fr, h1, _⟩ := (r.box id b hb).cells
  exact (Array.getElem?_eq_some_iff.1 h1).1

theorem Rel.blkLt {w0 w : World} {ρ : Nat → RB} {H : Heap} (r : Rel w0 ρ H w) {id : Nat} (hid : id < H.length) : (ρ id).blk < w.heap.size :=
  r.boxBlk (List.getElem?_eq_getElem hid)

/-- One box has changed (or moved), all else is as it was. -/
theorem Rel.change {w0 w w' : World} {ρ : Nat → RB} {H : Heap} (r : Rel w0 ρ H w) {id : Nat} {b : Box} (hb : H[id]? = some b) (hro : b.ro = false) (b' : Box) (hro' : b'.ro = false) (n : RB)
    (hgen : n.gen = b'.gen) (hrow : n.row = b'.row) (hge : b.gen ≤ b'.gen) (hsame : b'.gen = b.gen → n = ρ id)
    (hblk : n.blk = (ρ id).blk ∨ (w.heap.size ≤ n.blk))
    (hos : w'.os = w.os) (htape : w'.tape = w.tape) (hout : w'.output = w.output) (hsize : w.heap.size ≤ w'.heap.size)
    (hframe : ∀ k, k < w.heap.size → k ≠ (ρ id).blk → w'.heap[k]? = w.heap[k]?)
    (cs : Array Value) (e : TypeId) (hcs : w'.heap[n.blk]? = some (.cells cs e (0, 0))) (hcsz : cs.size = n.size)
    (hcells : ∀ (i : Nat) (v : Value), b'.cells[i]? = some v → ∃ v', cs[n.base + i]? = some v' ∧ VRel H.length ρ w.heap v v') :
    ∃ ρ', ρ' id = n ∧ (∀ j, j ≠ id → ρ' j = ρ j) ∧ Rel w0 ρ' (H.set id b') w' ∧ Ext H.length ρ w.heap (H.set id b').length ρ' w'.heap := by
  have hid : id < H.length := (List.getElem?_eq_some_iff.1 hb).1
  have hB := r.box id b hb
  obtain ⟨ρ', hnew, hold⟩ : ∃ ρ' : Nat → RB, ρ' id = n ∧ ∀ j, j ≠ id → ρ' j = ρ j := ⟨fun j => if j = id then n else ρ j, by simp, fun j hj => by simp [hj]⟩
  have x : Ext H.length ρ w.heap (H.set id b').length ρ' w'.heap := by
    refine ⟨by simp, fun j hj => ?_, fun j hj => ?_, hsize, fun k hk hf => ?_⟩
    · by_cases hji : j = id
      · subst hji
        rw [hnew]
        refine ⟨by rw [hB.gen, hgen]; exact hge, fun h => hsame ?_⟩
        rw [hgen, hB.gen] at h
        exact h
      · rw [hold j hji]
        exact ⟨Nat.le_refl _, fun _ => rfl⟩
    · simp only [List.length_set] at hj
      by_cases hji : j = id
      · subst hji
        rw [hnew]
        rcases hblk with h | h
        · exact .inl ⟨hj, h⟩
        · exact .inr h
      · rw [hold j hji]
        exact .inl ⟨hj, rfl⟩
    · exact hframe k hk fun h => hf id hid h.symm
  refine ⟨ρ', hnew, hold, ⟨?_, fun j c hj => ?_, fun i j c d hi hj hij hcd => ?_⟩, x⟩
  · have hb0 := r.below
    refine ⟨hos.trans hb0.os, htape.trans hb0.tape, hout.trans hb0.output, Nat.le_trans hb0.size hsize, fun k hk => ?_⟩
    have hf := hB.fresh hro
    rw [hframe k (Nat.lt_of_lt_of_le hk hb0.size) (by omega)]
    exact hb0.block k hk
  · rw [List.getElem?_set] at hj
    split at hj
    · rename_i hji
      subst hji
      obtain rfl := Option.some.inj hj
      rw [List.length_set]
      rw [List.length_set] at x
      refine ⟨by rw [hnew]; exact hgen, by rw [hnew]; exact hrow, fun _ => ?_, cs, e, (0, 0), by rw [hnew]; exact hcs, fun _ => rfl, by rw [hnew]; exact hcsz, fun i v hv => ?_⟩
      · rw [hnew]
        rcases hblk with h | h
        · rw [h]; exact hB.fresh hro
        · exact Nat.le_trans r.below.size h
      · obtain ⟨v', h1, h2⟩ := hcells i v hv
        exact ⟨v', by rw [hnew]; exact h1, h2.mono x⟩
    · rename_i hji
      have hji' : j ≠ id := fun h => hji h.symm
      have hC := r.box j c hj
      obtain ⟨cs1, e1, fr1, h1, h2, h3, h4⟩ := hC.cells
      refine ⟨by rw [hold j hji']; exact hC.gen, by rw [hold j hji']; exact hC.row, fun h => by rw [hold j hji']; exact hC.fresh h, cs1, e1, fr1, ?_, h2, by rw [hold j hji']; exact h3, fun i v hv => ?_⟩
      · rw [hold j hji', hframe _ (r.boxBlk hj) (r.sep j id c b hj hb hji' (.inr hro)), h1]
      · obtain ⟨v', k1, k2⟩ := h4 i v hv
        exact ⟨v', by rw [hold j hji']; exact k1, k2.mono x⟩
  · rw [List.getElem?_set] at hi hj
    by_cases h1 : id = i
    · subst h1
      have h2 : j ≠ id := fun h => hij h.symm
      rw [if_neg hij] at hj
      rw [hnew, hold j h2]
      rcases hblk with h | h
      · rw [h]; exact r.sep id j b d hb hj hij (.inl hro)
      · have := r.boxBlk hj; omega
    · rw [if_neg h1] at hi
      have h1' : i ≠ id := fun h => h1 h.symm
      by_cases h2 : id = j
      · subst h2
        rw [hnew, hold i h1']
        rcases hblk with h | h
        · rw [h]; exact r.sep i id c b hi hb hij (.inr hro)
        · have := r.boxBlk hi; omega
      · rw [if_neg h2] at hj
        have h2' : j ≠ id := fun h => h2 h.symm
        rw [hold i h1', hold j h2']
        exact r.sep i j c d hi hj hij hcd

/-- A new box in a new block. -/
theorem Rel.push {w0 w : World} {ρ : Nat → RB} {H : Heap} (r : Rel w0 ρ H w) (b : Box) (hgen : b.gen = 0) (hro : b.ro = false) (cs : Array Value) (e : TypeId)
    (hcells : ∀ (i : Nat) (v : Value), b.cells[i]? = some v → ∃ v', cs[i]? = some v' ∧ VRel H.length ρ w.heap v v') :
    ∃ ρ', ρ' H.length = ⟨w.heap.size, 0, cs.size, 0, b.row⟩ ∧ Rel w0 ρ' (H ++ [b]) (w.alloc (.cells cs e)) ∧ Ext H.length ρ w.heap (H ++ [b]).length ρ' (w.alloc (.cells cs e)).heap := by
  let ρ' : Nat → RB := fun j => if j = H.length then ⟨w.heap.size, 0, cs.size, 0, b.row⟩ else ρ j
  have hnew : ρ' H.length = ⟨w.heap.size, 0, cs.size, 0, b.row⟩ := by simp [ρ']
  have hold : ∀ j, j < H.length → ρ' j = ρ j := fun j hj => by
    have : ¬ j = H.length := by omega
    simp [ρ', this]
  have hheap : ∀ k, k < w.heap.size → (w.alloc (.cells cs e)).heap[k]? = w.heap[k]? := fun k hk => Below.heap_alloc w _ k hk
  have hlast : (w.alloc (.cells cs e)).heap[w.heap.size]? = some (.cells cs e (0, 0)) := by
    show (w.heap.push _)[w.heap.size]? = _
    simp
  have x : Ext H.length ρ w.heap (H ++ [b]).length ρ' (w.alloc (.cells cs e)).heap := by
    refine ⟨by simp, fun j hj => by rw [hold j hj]; exact ⟨Nat.le_refl _, fun _ => rfl⟩, fun j hj => ?_, by simp, fun k hk _ => hheap k hk⟩
    simp only [List.length_append, List.length_singleton] at hj
    by_cases h : j = H.length
    · subst h; rw [hnew]; exact .inr (Nat.le_refl _)
    · rw [hold j (by omega)]; exact .inl ⟨by omega, rfl⟩
  refine ⟨ρ', hnew, ⟨?_, fun j c hj => ?_, fun i j c d hi hj hij hcd => ?_⟩, x⟩
  · exact r.below.alloc r.below.size _
  · by_cases h : j < H.length
    · rw [List.getElem?_append_left h] at hj
      have hC := r.box j c hj
      obtain ⟨cs1, e1, fr1, h1, h2, h3, h4⟩ := hC.cells
      refine ⟨by rw [hold j h]; exact hC.gen, by rw [hold j h]; exact hC.row, fun k => by rw [hold j h]; exact hC.fresh k, cs1, e1, fr1, ?_, h2, by rw [hold j h]; exact h3, fun i v hv => ?_⟩
      · rw [hold j h, hheap _ (r.boxBlk hj), h1]
      · obtain ⟨v', k1, k2⟩ := h4 i v hv
        exact ⟨v', by rw [hold j h]; exact k1, k2.mono x⟩
    · rw [List.getElem?_append_right (by omega)] at hj
      have hj0 : j - H.length = 0 := by
        have := (List.getElem?_eq_some_iff.1 hj).1
        simp at this
        omega
      have hje : j = H.length := by omega
      subst hje
      simp at hj
      subst hj
      refine ⟨by rw [hnew]; exact hgen.symm, by rw [hnew], fun _ => by rw [hnew]; exact r.below.size, cs, e, (0, 0), by rw [hnew]; exact hlast, fun _ => rfl, by rw [hnew], fun i v hv => ?_⟩
      obtain ⟨v', k1, k2⟩ := hcells i v hv
      exact ⟨v', by rw [hnew]; simpa using k1, k2.mono x⟩
  · have key : ∀ j d, (H ++ [b])[j]? = some d → (j < H.length ∧ H[j]? = some d ∧ ρ' j = ρ j) ∨ (j = H.length ∧ d = b) := fun j d hj => by
      by_cases h : j < H.length
      · rw [List.getElem?_append_left h] at hj
        exact .inl ⟨h, hj, hold j h⟩
      · rw [List.getElem?_append_right (by omega)] at hj
        have hj0 : j - H.length = 0 := by
          have := (List.getElem?_eq_some_iff.1 hj).1
          simp at this
          omega
        rw [hj0] at hj
        simp at hj
        exact .inr ⟨by omega, hj.symm⟩
    rcases key i c hi with ⟨i1, i2, i3⟩ | ⟨i1, i2⟩ <;> rcases key j d hj with ⟨j1, j2, j3⟩ | ⟨j1, j2⟩
    · rw [i3, j3]; exact r.sep i j c d i2 j2 hij hcd
    · subst j1; rw [i3, hnew]; have := r.boxBlk i2; simp; omega
    · subst i1; rw [j3, hnew]; have := r.boxBlk j2; simp; omega
    · omega

theorem Rel.world {w0 w w' : World} {ρ : Nat → RB} {H : Heap} (r : Rel w0 ρ H w) (hh : w'.heap = w.heap) (hos : w'.os = w.os) (ht : w'.tape = w.tape) (ho : w'.output = w.output) : Rel w0 ρ H w' := by
  refine ⟨⟨hos.trans r.below.os, ht.trans r.below.tape, ho.trans r.below.output, by rw [hh]; exact r.below.size, fun k hk => by rw [hh]; exact r.below.block k hk⟩, fun id b hb => ?_, r.sep⟩
  rw [hh]
  exact r.box id b hb

/-- The cells of a box are in the world. -/
theorem Rel.cell {w0 w : World} {ρ : Nat → RB} {H : Heap} (r : Rel w0 ρ H w) {id : Nat} {b : Box} (hb : H[id]? = some b) {i : Nat} {v : Value} (hv : b.cells[i]? = some v) :
    ∃ v', w.cell? ⟨(ρ id).blk, (ρ id).base + i, none⟩ = some v' ∧ VRel H.length ρ w.heap v v' := by
  obtain ⟨cs, e, fr, h1, h2, h3, h4⟩ := (r.box id b hb).cells
  obtain ⟨v', k1, k2⟩ := h4 i v hv
  exact ⟨v', by simp [World.cell?, h1, k1], k2⟩

theorem rd1_some {H : Heap} {a : Addr} {v : Value} (h : rd1 H a = some v) : ∃ b, H[a.block]? = some b ∧ a.spot = some b.gen ∧ b.cells[a.off]? = some v := by
  unfold rd1 at h
  cases hb : H[a.block]? with
  | none => rw [hb] at h; simp at h
  | some b =>
    rw [hb] at h
    simp only at h
    split at h
    · exact ⟨b, rfl, by assumption, h⟩
    · simp at h

theorem rdN_some {H : Heap} {a : Addr} {n : Nat} {l : List Value} (h : rdN H a n = some l) :
    ∃ b, H[a.block]? = some b ∧ a.spot = some b.gen ∧ a.off + n ≤ b.cells.length ∧ l = (b.cells.drop a.off).take n := by
  unfold rdN at h
  cases hb : H[a.block]? with
  | none => rw [hb] at h; simp at h
  | some b =>
    rw [hb] at h
    simp only at h
    split at h
    · rename_i hc
      exact ⟨b, rfl, hc.1, hc.2, (Option.some.inj h).symm⟩
    · simp at h

/-- A pointer that is good relates to the place. -/
theorem VRel.ptrAt {N : Nat} {ρ : Nat → RB} {h : Array Obj} {a : Addr} {v' : Value} (r : VRel N ρ h (.pointer (some a)) v') (hg : a.spot = some (ρ a.block).gen) :
    a.block < N ∧ v' = .pointer (some ⟨(ρ a.block).blk, (ρ a.block).base + a.off, none⟩) := by
  cases r with
  | ptr id off g a' hid hg' ha => 
    simp at hg
    rw [ha hg]
    exact ⟨hid, rfl⟩

theorem Rel.rd1 {w0 w : World} {ρ : Nat → RB} {H : Heap} (r : Rel w0 ρ H w) {a : Addr} {v x : Value} (h : rd1 H a = some v) (hx : VRel H.length ρ w.heap (.pointer (some a)) x) :
    ∃ v' : Value, x = .pointer (some ⟨(ρ a.block).blk, (ρ a.block).base + a.off, none⟩) ∧ w.cell? ⟨(ρ a.block).blk, (ρ a.block).base + a.off, none⟩ = some v' ∧ VRel H.length ρ w.heap v v' := by
  obtain ⟨b, hb, hs, hc⟩ := rd1_some h
  obtain ⟨_, hx'⟩ := hx.ptrAt (by rw [(r.box _ b hb).gen]; exact hs)
  obtain ⟨v', h1, h2⟩ := r.cell hb hc
  exact ⟨v', hx', h1, h2⟩

/-- n cells of a box, in the world. -/
theorem Rel.cellsAt {w0 w : World} {ρ : Nat → RB} {H : Heap} (r : Rel w0 ρ H w) {id : Nat} {b : Box} (hb : H[id]? = some b) (off n : Nat) (hn : off + n ≤ b.cells.length) :
    ∃ l' : List Value, l'.length = n ∧ (∀ (j : Nat) (v : Value), l'[j]? = some v → w.cell? ⟨(ρ id).blk, (ρ id).base + off + j, none⟩ = some v) ∧ LRel H.length ρ w.heap ((b.cells.drop off).take n) l' := by
  obtain ⟨cs, e, fr, h1, h2, h3, h4⟩ := (r.box id b hb).cells
  have hlen : (ρ id).base + off + n ≤ cs.size ∨ n = 0 := by
    rcases Nat.eq_zero_or_pos n with h | h
    · exact .inr h
    · obtain ⟨v', k1, _⟩ := h4 (off + n - 1) _ (List.getElem?_eq_getElem (by omega))
      have := (Array.getElem?_eq_some_iff.1 k1).1
      exact .inl (by omega)
  refine ⟨(cs.toList.drop ((ρ id).base + off)).take n, ?_, fun j v hj => ?_, ?_, fun i v v' hi hi' => ?_⟩
  · rcases hlen with h | h
    · simp; omega
    · simp [h]
  · rw [List.getElem?_take] at hj
    split at hj
    · rw [List.getElem?_drop] at hj
      simp only [World.cell?, h1]
      simpa using hj
    · simp at hj
  · rcases hlen with h | h
    · simp; omega
    · simp [h]
  · rw [List.getElem?_take] at hi hi'
    split at hi
    · rename_i hlt
      rw [if_pos hlt, List.getElem?_drop] at hi'
      rw [List.getElem?_drop] at hi
      obtain ⟨u, k1, k2⟩ := h4 _ _ hi
      have : cs[(ρ id).base + off + i]? = some v' := by simpa using hi'
      rw [← Nat.add_assoc, this] at k1
      obtain rfl := Option.some.inj k1
      exact k2
    · simp at hi

theorem wrN_some {fl : Nat} {H H' : Heap} {a : Addr} {vs : List Value} (h : wrN fl H a vs = some H') :
    ∃ b, H[a.block]? = some b ∧ a.spot = some b.gen ∧ b.ro = false ∧ fl ≤ a.block ∧ a.off + vs.length ≤ b.cells.length ∧ vs.all Value.oneCell' = true ∧ H' = H.set a.block { b with cells := setSeg b.cells a.off vs } := by
  unfold wrN at h
  cases hb : H[a.block]? with
  | none => rw [hb] at h; simp at h
  | some b =>
    rw [hb] at h
    simp only at h
    split at h
    · rename_i hc
      exact ⟨b, rfl, hc.1, hc.2.1, hc.2.2.1, hc.2.2.2.1, hc.2.2.2.2, (Option.some.inj h).symm⟩
    · simp at h

theorem setSeg_get (l : List Value) (off : Nat) (vs : List Value) (hl : off + vs.length ≤ l.length) (i : Nat) :
    (setSeg l off vs)[i]? = if off ≤ i ∧ i < off + vs.length then vs[i - off]? else l[i]? := by
  unfold setSeg
  by_cases h1 : i < off
  · rw [if_neg (by omega), List.append_assoc, List.getElem?_append_left (by simp; omega), List.getElem?_take, if_pos h1]
  · by_cases h2 : i < off + vs.length
    · rw [if_pos ⟨by omega, h2⟩, List.append_assoc, List.getElem?_append_right (by simp; omega), List.getElem?_append_left (by simp; omega)]
      simp only [List.length_take]
      rw [Nat.min_eq_left (by omega)]
    · rw [if_neg (by omega), List.getElem?_append_right (by simp; omega), List.getElem?_drop]
      congr 1
      simp
      omega

theorem heap_setRow_other (w : World) (g : Nat) (cs : Array Value) (k : Nat) (h : k ≠ g) : (w.setRow g cs).heap[k]? = w.heap[k]? := by
  simp only [World.setRow, Array.getElem?_modify]
  rw [if_neg (by omega)]

/-- Cells are stored. -/
theorem Rel.wrN {w0 w : World} {P : Program} {ρ : Nat → RB} {H H' : Heap} (r : Rel w0 ρ H w) {fl : Nat} {a : Addr} {vs vs' : List Value} {x : Value} (h : wrN fl H a vs = some H')
    (hx : VRel H.length ρ w.heap (.pointer (some a)) x) (hv : LRel H.length ρ w.heap vs vs') :
    ∃ w' ρ', x = .pointer (some ⟨(ρ a.block).blk, (ρ a.block).base + a.off, none⟩) ∧ (storeCells ⟨(ρ a.block).blk, (ρ a.block).base + a.off, none⟩ vs').run P w = .ok () w' ∧ Rel w0 ρ' H' w' ∧ Ext H.length ρ w.heap H'.length ρ' w'.heap := by
  obtain ⟨b, hb, hs, hro, hfl, hle, hone, rfl⟩ := wrN_some h
  have hB := r.box _ b hb
  obtain ⟨_, hx'⟩ := hx.ptrAt (by rw [hB.gen]; exact hs)
  obtain ⟨cs, e, fr, h1, h2, h3, h4⟩ := hB.cells
  obtain rfl := h2 hro
  have hone' : ∀ v ∈ vs', v.oneCell' = true := fun v hm => by
    obtain ⟨i, hi, rfl⟩ := List.getElem_of_mem hm
    have hi2 : i < vs.length := by have := hv.1; omega
    rw [(hv.2 i _ _ (List.getElem?_eq_getElem hi2) (List.getElem?_eq_getElem hi)).oneCell]
    exact List.all_eq_true.1 hone _ (List.getElem_mem hi2)
  have hfit : (ρ a.block).base + a.off + vs'.length ≤ cs.size ∨ vs'.length = 0 := by
    rcases Nat.eq_zero_or_pos vs'.length with h | h
    · exact .inr h
    · have hvl := hv.1
      obtain ⟨v', k1, _⟩ := h4 (a.off + vs.length - 1) _ (List.getElem?_eq_getElem (by omega))
      have := (Array.getElem?_eq_some_iff.1 k1).1
      exact .inl (by omega)
  rcases hfit with hfit | hnil
  · have hst := run_storeCells_at (P := P) (ρ a.block).blk ((ρ a.block).base + a.off) e vs' 0 cs w h1 (by simpa using hfit) hone'
    simp only [Nat.add_zero] at hst
    have hset : cs.toList.take ((ρ a.block).base + a.off) ++ vs' ++ cs.toList.drop ((ρ a.block).base + a.off + vs'.length) = setSeg cs.toList ((ρ a.block).base + a.off) vs' := rfl
    rw [hset] at hst
    have hsz : (setSeg cs.toList ((ρ a.block).base + a.off) vs').toArray.size = (ρ a.block).size := by
      rw [← h3]
      simp [setSeg]
      omega
    have hcl : ∀ (i : Nat) (v : Value), (setSeg b.cells a.off vs)[i]? = some v → ∃ v', (setSeg cs.toList ((ρ a.block).base + a.off) vs').toArray[(ρ a.block).base + i]? = some v' ∧ VRel H.length ρ w.heap v v' := by
      intro i v hv'
      rw [setSeg_get _ _ _ hle] at hv'
      have hvl := hv.1
      have e1 : (setSeg cs.toList ((ρ a.block).base + a.off) vs').toArray[(ρ a.block).base + i]? = if (ρ a.block).base + a.off ≤ (ρ a.block).base + i ∧ (ρ a.block).base + i < (ρ a.block).base + a.off + vs'.length then vs'[(ρ a.block).base + i - ((ρ a.block).base + a.off)]? else cs.toList[(ρ a.block).base + i]? := by
        rw [List.getElem?_toArray, setSeg_get _ _ _ (by simpa using hfit)]
      split at hv'
      · rename_i hc
        rw [e1, if_pos (by omega)]
        have e2 : (ρ a.block).base + i - ((ρ a.block).base + a.off) = i - a.off := by omega
        rw [e2]
        obtain ⟨u, k1, k2⟩ := hv.get hv'
        exact ⟨u, k1, k2⟩
      · rename_i hc
        rw [e1, if_neg (by omega)]
        obtain ⟨u, k1, k2⟩ := h4 i v hv'
        exact ⟨u, by simpa using k1, k2⟩
    obtain ⟨ρ', _, _, R, X⟩ := r.change hb hro { b with cells := setSeg b.cells a.off vs } hro (ρ a.block) hB.gen hB.row (Nat.le_refl _) (fun _ => rfl) (.inl rfl) (w' := w.setRow (ρ a.block).blk (setSeg cs.toList ((ρ a.block).base + a.off) vs').toArray) rfl rfl rfl (by simp [World.setRow]) (fun k _ hk => heap_setRow_other w _ _ k hk)
      (setSeg cs.toList ((ρ a.block).base + a.off) vs').toArray e (setRow_heap w _ cs _ e (0, 0) h1) hsz hcl
    exact ⟨_, ρ', hx', hst, R, X⟩
  · have hnil' : vs' = [] := List.eq_nil_of_length_eq_zero hnil
    subst hnil'
    have hvs : vs = [] := List.eq_nil_of_length_eq_zero (by have := hv.1; simpa using this)
    subst hvs
    have e0 : setSeg b.cells a.off [] = b.cells := by simp [setSeg]
    obtain ⟨ρ', _, _, R, X⟩ := r.change hb hro { b with cells := setSeg b.cells a.off [] } hro (ρ a.block) hB.gen hB.row (Nat.le_refl _) (fun _ => rfl) (.inl rfl) (w' := w) rfl rfl rfl (Nat.le_refl _) (fun k _ hk => rfl) cs e h1 h3 (by simp only [e0]; exact h4)
    exact ⟨w, ρ', hx', rfl, R, X⟩

end Go.Lev


set_option linter.unusedVariables false
namespace Go.Lev
open Go Go.RowKit

/-- An operation's answer, told over boxes. -/
def Res (w0 : World) (ρ : Nat → RB) (H : Heap) (w : World) (v : Value) (H' : Heap) (r : Result Value) : Prop :=
  ∃ v' w' ρ', r = .ok v' w' ∧ VRel H'.length ρ' w'.heap v v' ∧ Rel w0 ρ' H' w' ∧ Ext H.length ρ w.heap H'.length ρ' w'.heap

theorem src_of {w0 w : World} {P : Program} {ρ : Nat → RB} {H : Heap} (r : Rel w0 ρ H w) {esz m : Nat} {x x' : Value} {ys : List Value} (h : srcCells esz H x = some (ys, m))
    (hx : VRel H.length ρ w.heap x x') {tx e' : TypeId} (hk : P.underlying tx = some (.slice e')) (hone : ys.all Value.oneCell' = true) :
    ∃ news, Src P esz tx x' m news w ∧ LRel H.length ρ w.heap ys news ∧ ys.length = m * esz := by
  have one : ∀ news, LRel H.length ρ w.heap ys news → ∀ v ∈ news, v.oneCell' = true := fun news hl v hm => by
    obtain ⟨i, hi, rfl⟩ := List.getElem_of_mem hm
    have hi2 : i < ys.length := by have := hl.1; omega
    rw [(hl.2 i _ _ (List.getElem?_eq_getElem hi2) (List.getElem?_eq_getElem hi)).oneCell]
    exact List.all_eq_true.1 hone _ (List.getElem_mem hi2)
  cases hx with
  | sliceNil =>
    simp [srcCells] at h
    obtain ⟨rfl, rfl⟩ := h
    exact ⟨[], Src.ofNil w hk 0, .nil _ _ _, by simp⟩
  | slice id off g n c c' a hid hg hn ha =>
    simp only [srcCells, Option.map_eq_some_iff, Prod.mk.injEq] at h
    obtain ⟨l, hl, rfl, rfl⟩ := h
    obtain ⟨b, hb, hs, hle, rfl⟩ := rdN_some hl
    simp only [Option.some.injEq] at hs
    simp only at hb hle
    obtain ⟨l', k1, k2, k3⟩ := r.cellsAt hb off (n * esz) hle
    have hgen : g = (ρ id).gen := by rw [(r.box id b hb).gen]; exact hs
    refine ⟨l', Src.ofSlice w hk a n c' l' k1 (fun j u hj => ?_) (one l' k3), k3, by simp; omega⟩
    have hc : 0 < c' := by
      rcases Nat.eq_zero_or_pos c' with h | h
      · exfalso
        have hn0 : n = 0 := by omega
        rw [hn0, Nat.zero_mul] at k1
        have := (List.getElem?_eq_some_iff.1 hj).1
        omega
      · exact h
    rw [(ha hgen).1 hc, Addr.add_lit]
    exact k2 j u hj
  | marker cs cs' k n c e fr hk' hn hf hh hs hc =>
    simp only [srcCells] at h
    split at h
    · rename_i hsz
      simp only [Option.some.injEq, Prod.mk.injEq] at h
      obtain ⟨rfl, rfl⟩ := h
      have hl : LRel H.length ρ w.heap cs.toList cs'.toList := ⟨by simpa using hs, fun i v v' h1 h2 => hc i v v' (by simpa using h1) (by simpa using h2)⟩
      refine ⟨cs'.toList, Src.ofSlice w hk _ _ c cs'.toList (by simp; omega) (fun j u hj => ?_) (one _ hl), hl, by simpa using hsz⟩
      rw [Addr.add_lit]
      simp only [World.cell?, hh]
      simpa using hj
    · simp at h
  | _ => simp [srcCells] at h

theorem setCells_heap (P : Program) (w : World) (b o : Nat) (vs : List Value) (cur : Array Value) (t : TypeId) (hg : w.heap[b]? = some (.cells cur t (0, 0))) (hl : o + vs.length ≤ cur.size) (h1 : ∀ v ∈ vs, v.oneCell' = true) :
    w.setCells b o vs = w.setRow b (setSeg cur.toList o vs).toArray := by
  have e1 := run_storeCells_at (P := P) b o t vs 0 cur w hg (by simpa using hl) h1
  have e2 := run_storeCells_cells (P := P) b o vs 0 w (fun j hj => by simp [World.cell?, hg]; omega) (fun j hj => by simp [World.frozen?, hg]) h1
  rw [e1] at e2
  simp only [Nat.add_zero] at e2
  injection e2 with _ e2
  exact e2.symm

theorem grownCap_ge (w : World) (need old : Nat) (e : TypeId) : need ≤ grownCap w need old e := by
  unfold grownCap Question.cut
  exact Nat.le_add_right _ _

theorem zeroCells_size (zero : Array Value) (n : Nat) : (Builtin.zeroCells zero n).size = n * zero.size := by simp [Builtin.zeroCells]

theorem app_res {w0 w : World} {P : Program} {ρ : Nat → RB} {H H' : Heap} (r : Rel w0 ρ H w) {fl esz bytes : Nat} {s x v s' x' : Value} (h : appV fl esz bytes H s x = some (v, H'))
    (hs : VRel H.length ρ w.heap s s') (hx : VRel H.length ρ w.heap x x') {t tx ty e e' : TypeId} {i : TypeInfo} {z : Value} (ht : P.underlying t = some (.slice e)) (htx : P.underlying tx = some (.slice e'))
    (hi : P.info? e = some i) (hz : i.zero = some z) (hsz : i.size = esz) (hzs : z.cells.size = esz) (hby : i.bytes = bytes) :
    Res w0 ρ H w v H' ((Builtin.append_ #[t, tx] ty #[s', x']).run P w) := by
  subst hsz hby
  unfold appV at h
  cases hsrc : srcCells i.size H x with
  | none => rw [hsrc] at h; simp at h
  | some p =>
  obtain ⟨ys, m⟩ := p
  rw [hsrc] at h
  simp only at h
  split at h
  · simp at h
  rename_i hcond
  simp only [not_or, Bool.not_eq_false] at hcond
  obtain ⟨hesz, hone⟩ := hcond
  obtain ⟨news, hnews, hln, hyl⟩ := src_of r hsrc hx htx hone
  cases hs with
  | sliceNil =>
    simp only at h
    split at h
    · rename_i hm
      subst hm
      simp only [Option.some.injEq, Prod.mk.injEq] at h
      obtain ⟨rfl, rfl⟩ := h
      have hn0 : news = [] := List.eq_nil_of_length_eq_zero (by have := hnews.newsLen; simpa using this)
      subst hn0
      exact ⟨_, w, ρ, run_append_nothing w t tx ty e i ht hi none 0 0 (Nat.le_refl _) x' hnews, .sliceNil, r, .refl _ _ _⟩
    · rename_i hm
      split at h
      · rename_i hb
        simp only [Option.some.injEq, Prod.mk.injEq] at h
        obtain ⟨rfl, rfl⟩ := h
        have hg := run_append_grow_src (P := P) w t tx ty e i z ht hi hz none 0 0 [] (by simp [Builtin.firstCells]) x' m news hnews (by omega) (by simp; omega) (growslice_fits (by omega) (by simpa using hb.1))
        simp only [Nat.zero_add, List.nil_append] at hg
        have hcap := grownCap_ge w m 0 e
        have rd : Rel w0 ρ H w.drew := r.world rfl rfl rfl rfl
        obtain ⟨ρ', h1, h2, h3⟩ := rd.push { cells := ys, gen := 0, row := i.size } rfl rfl (news.toArray ++ Builtin.zeroCells z.cells (grownCap w m 0 e - m)) e (fun j u hj => by
          obtain ⟨u', k1, k2⟩ := hln.get hj
          have := (List.getElem?_eq_some_iff.1 k1).1
          refine ⟨u', ?_, k2⟩
          rw [Array.getElem?_append_left (by simpa using this)]
          simpa using k1)
        refine ⟨_, _, ρ', hg, ?_, h2, h3⟩
        refine .slice H.length 0 0 m i.size _ _ (by simp) (by omega) hcap fun _ => ⟨fun _ => by rw [h1]; rfl, fun _ _ _ => ?_⟩
        rw [h1]
        simp only [Array.size_append, zeroCells_size, List.size_toArray, hnews.newsLen, hzs]
        simp only [Nat.zero_add]
        rw [← Nat.add_mul]
        have : m + (grownCap w m 0 e - m) = grownCap w m 0 e := by omega
        rw [this]
        exact Nat.le_refl _
      · simp at h
  | slice id off g n c c' a hid hg hn ha =>
    simp only at h
    cases hb : H[id]? with
    | none => rw [hb] at h; simp at h
    | some b =>
    rw [hb] at h
    simp only at h
    split at h
    case isFalse => simp at h
    rename_i hc
    obtain ⟨hsp, rfl, hrow, hro, hfl, hle, hby, hlen⟩ := hc
    simp only [Option.some.injEq] at hsp
    have hB := r.box id b hb
    have hgen : g = (ρ id).gen := by rw [hB.gen]; exact hsp
    split at h
    · rename_i hm
      subst hm
      simp only [Option.some.injEq, Prod.mk.injEq] at h
      obtain ⟨rfl, rfl⟩ := h
      have hn0 : news = [] := List.eq_nil_of_length_eq_zero (by have := hnews.newsLen; simpa using this)
      subst hn0
      exact ⟨_, w, ρ, run_append_nothing w t tx ty e i ht hi (some a) n c' hn x' hnews, .slice id off g n _ c' a hid hg hn ha, r, .refl _ _ _⟩
    · rename_i hm
      simp only [Option.some.injEq, Prod.mk.injEq] at h
      obtain ⟨rfl, rfl⟩ := h
      obtain ⟨cs, e1, fr, h1, h2, h3, h4⟩ := hB.cells
      obtain rfl := h2 hro
      obtain ⟨olds, o1, o2, o3⟩ := r.cellsAt hb off (n * i.size) hle
      have holds : LRel H.length ρ w.heap ((b.cells.drop off).take (n * i.size) ++ ys) (olds ++ news) := o3.app hln
      have hrow' : (ρ id).row = i.size := by rw [hB.row]; exact hrow
      by_cases hroom : n + m ≤ c'
      · have hpos : 0 < c' := by omega
        obtain rfl := (ha hgen).1 hpos
        have hcap := (ha hgen).2 hrow' hesz hpos
        rw [← h3] at hcap
        have hmul : (n + m) * i.size ≤ c' * i.size := Nat.mul_le_mul_right _ hroom
        rw [Nat.add_mul] at hmul
        have hnl := hnews.newsLen
        have hrun := run_append_room_src (P := P) w t tx ty e i ht hi (ρ id).blk ((ρ id).base + off) n c' x' m news hnews hroom (fun j hj => by simp [World.cell?, h1]; omega) (fun j hj => by simp [World.frozen?, h1])
        rw [setCells_heap P w _ _ news cs e1 h1 (by omega) hnews.one] at hrun
        obtain ⟨ρ', n1, n2, R, X⟩ := r.change hb hro { b with cells := (b.cells.drop off).take (n * i.size) ++ ys, gen := b.gen + 1 } hro ⟨(ρ id).blk, (ρ id).base + off, (ρ id).size, b.gen + 1, (ρ id).row⟩ rfl hB.row (Nat.le_succ _) (fun h => by simp at h) (.inl rfl)
          (w' := w.setRow (ρ id).blk (setSeg cs.toList ((ρ id).base + off + n * i.size) news).toArray) rfl rfl rfl (by simp [World.setRow]) (fun k _ hk => heap_setRow_other w _ _ k hk)
          (setSeg cs.toList ((ρ id).base + off + n * i.size) news).toArray e1 (setRow_heap w _ cs _ e1 (0, 0) h1) (by rw [← h3]; simp [setSeg]; omega) (fun j u hj => by
            obtain ⟨u', k1, k2⟩ := holds.get hj
            refine ⟨u', ?_, k2⟩
            dsimp only
            rw [List.getElem?_toArray, setSeg_get _ _ _ (by simp; omega)]
            rw [List.getElem?_append] at k1
            split at k1
            · rename_i hlt
              rw [if_neg (by omega)]
              have := o2 j u' k1
              simp only [World.cell?, h1] at this
              simpa using this
            · rename_i hlt
              have hj2 := (List.getElem?_eq_some_iff.1 k1).1
              rw [if_pos (by omega), ← k1]
              congr 1
              omega)
        refine ⟨_, _, ρ', hrun, ?_, R, X⟩
        refine .slice id 0 (b.gen + 1) (n + m) i.size c' _ (by simpa using hid) (by rw [n1]; exact Nat.le_refl _) hroom fun _ => ⟨fun _ => by rw [n1]; rfl, fun _ _ _ => ?_⟩
        rw [n1]
        simp only
        rw [← h3]
        exact hcap
      · have hnl := hnews.newsLen
        have hfc : (Builtin.firstCells i.size n (.slice (some a) n c')).run P w.drew = .ok olds.toArray w.drew := by
          refine run_firstCells_some w.drew i.size n a n c' olds o1 (fun j u hj => ?_)
          have hc0 : 0 < c' := by
            rcases Nat.eq_zero_or_pos c' with h | h
            · exfalso
              have hn0 : n = 0 := by omega
              rw [hn0, Nat.zero_mul] at o1
              have := (List.getElem?_eq_some_iff.1 hj).1
              omega
            · exact h
          rw [(ha hgen).1 hc0, Addr.add_lit, World.cell?_drew]
          exact o2 j u hj
        have hrun := run_append_grow_src (P := P) w t tx ty e i z ht hi hz (some a) n c' olds hfc x' m news hnews (by omega) (by omega) (growslice_fits (by omega) hby)
        have hcap := grownCap_ge w (n + m) c' e
        have rd : Rel w0 ρ H w.drew := r.world rfl rfl rfl rfl
        obtain ⟨ρ', n1, n2, R, X⟩ := rd.change hb hro { b with cells := (b.cells.drop off).take (n * i.size) ++ ys, gen := b.gen + 1 } hro
          ⟨w.heap.size, 0, ((olds ++ news).toArray ++ Builtin.zeroCells z.cells (grownCap w (n + m) c' e - (n + m))).size, b.gen + 1, (ρ id).row⟩ rfl hB.row (Nat.le_succ _) (fun h => by simp at h) (.inr (Nat.le_refl _))
          (w' := w.drew.alloc (.cells ((olds ++ news).toArray ++ Builtin.zeroCells z.cells (grownCap w (n + m) c' e - (n + m))) e)) rfl rfl rfl (by simp) (fun k hk _ => Below.heap_alloc w.drew _ k hk)
          ((olds ++ news).toArray ++ Builtin.zeroCells z.cells (grownCap w (n + m) c' e - (n + m))) e (by show (w.heap.push _)[w.heap.size]? = _; simp) rfl (fun j u hj => by
            obtain ⟨u', k1, k2⟩ := holds.get hj
            refine ⟨u', ?_, k2⟩
            have := (List.getElem?_eq_some_iff.1 k1).1
            rw [Nat.zero_add, Array.getElem?_append_left (by simpa using this)]
            simpa using k1)
        refine ⟨_, _, ρ', hrun, ?_, R, X⟩
        refine .slice id 0 (b.gen + 1) (n + m) i.size _ _ (by simpa using hid) (by rw [n1]; exact Nat.le_refl _) hcap fun _ => ⟨fun _ => by rw [n1], fun _ _ _ => ?_⟩
        rw [n1]
        simp only [Array.size_append, zeroCells_size, List.size_toArray, List.length_append, o1, hnews.newsLen, hzs]
        simp only [Nat.zero_add]
        rw [← Nat.add_mul, ← Nat.add_mul]
        have : n + m + (grownCap w (n + m) c' e - (n + m)) = grownCap w (n + m) c' e := by omega
        rw [this]
        exact Nat.le_refl _
  | _ => simp at h

end Go.Lev


set_option linter.unusedVariables false
set_option linter.unusedSimpArgs false
namespace Go.Lev
open Go Go.RowKit

def okX : Operand → Bool
  | .const v => isSc v
  | .global _ => false
  | _ => true

def tyAgg (P : Program) (t : TypeId) : Option Bool := (P.underlying t).map fun
  | .struct _ | .array _ _ => true
  | _ => false
def tySize (P : Program) (t : TypeId) : Option Nat := (P.info? t).map (·.size)
def tyZero (P : Program) (t : TypeId) : Option Value := (P.info? t).bind (·.zero)
def tyIface (P : Program) (t : TypeId) : Bool := match P.underlying t with
  | some (.interface _) => true
  | _ => false

def places (P : Program) : List Field → Option (List (Nat × Nat))
  | [] => some []
  | f :: r => match tySize P f.type, places P r with
    | some n, some l => some ((f.offset, n) :: l)
    | _, _ => none

def resolveParts (pl : Nat → Option (Nat × Nat)) : List (Nat × Operand) → Option (List (Nat × Nat × Operand))
  | [] => some []
  | (i, x) :: r => match pl i, resolveParts pl r with
    | some (o, s), some l => some ((o, s, x) :: l)
    | _, _ => none

def cLoad (P : Program) (t : TypeId) (a : Operand) : Option LO :=
  match tyAgg P t, tySize P t with
  | some false, some _ => some (.load1 a)
  | some true, some n => some (.loadN n a)
  | _, _ => none
def cStore (P : Program) (t : TypeId) (a x : Operand) : Option LO := (tySize P t).map fun n => .store n a x
def cAlloc (P : Program) (t : TypeId) : Option LO :=
  match tyZero P t with
  | some z => if z.cells.toList.all isSc0 then some (.alloc z.cells.toList) else none
  | none => none
def cBuild (P : Program) (t : TypeId) (parts : List (Nat × Operand)) : Option LO :=
  match tyZero P t, P.underlying t with
  | some z, some (.struct fields) => if z.cells.toList.all isSc0 then
      match places P fields.toList with
      | some pl => (resolveParts (pl[·]?) parts).map (.build z.cells.toList)
      | none => none
    else none
  | some z, some (.array _ e) => if z.cells.toList.all isSc0 then
      match tySize P e with
      | some n => (resolveParts (fun i => some (i * n, n)) parts).map (.build z.cells.toList)
      | none => none
    else none
  | _, _ => none
def zeroRow (zero : List Value) (n : Nat) : List Value := (List.range n).map fun i => zero.getD (i % zero.length) undef
def cRow (P : Program) (m : Bool) (t : TypeId) (len : Nat) (parts : List (Nat × Operand)) : Option LO :=
  match P.underlying t with
  | some (.slice e) => match tySize P e, tyZero P e with
    | some n, some z => if z.cells.toList.all isSc0 ∧ z.cells.size = n ∧ n ≠ 0 ∧ len * n ≤ 16777216 then
        (resolveParts (fun i => some (i * n, n)) parts).map (if m then .rowM len (zeroRow z.cells.toList (len * n)) else .row n len (zeroRow z.cells.toList (len * n))) else none
    | _, _ => none
  | _ => none
def cFieldAddr (P : Program) (s : TypeId) (x : Operand) (f : Nat) : Option LO :=
  match P.underlying s with
  | some (.struct fields) => match fields[f]? with
    | some fd => match tySize P fd.type with
      | some n => if n = 0 then none else some (.fad fd.offset x)
      | none => none
    | none => none
  | _ => none
def cField (P : Program) (s : TypeId) (x : Operand) (f : Nat) : Option LO :=
  match P.underlying s with
  | some (.struct fields) => match fields[f]? with
    | some fd => match tyAgg P fd.type, tySize P fd.type with
      | some false, some _ => some (.fld1 fd.offset x)
      | some true, some n => some (.fldN fd.offset n x)
      | _, _ => none
    | none => none
  | _ => none
def cIndexAddr (P : Program) (t : TypeId) (x i : Operand) : Option LO :=
  match P.underlying t with
  | some (.array len e) => (tySize P e).map fun n => .iadA len n x i
  | some (.slice e) => (tySize P e).map fun n => .iadS n x i
  | _ => none
def cIndex (P : Program) (t : TypeId) (x i : Operand) : Option LO :=
  match P.underlying t with
  | some (.array len e) => match tyAgg P e, tySize P e with
    | some false, some 1 => some (.ix1 len x i)
    | some true, some n => some (.ixN len n x i)
    | _, _ => none
  | some .string => some (.ixS x i)
  | _ => none
def nilX : Operand → Bool
  | .const (.pointer none) | .const .nilIface | .const .nilFunc | .const (.slice none 0 0) => true
  | _ => false
def nilTy (P : Program) (t : TypeId) (y : Operand) : Bool :=
  match P.underlying t, y with
  | some (.pointer _), .const (.pointer none) => true
  | some (.interface _), .const .nilIface => true
  | some (.slice _), .const (.slice none 0 0) => true
  | some (.func _ _ _), .const .nilFunc => true
  | _, _ => false
def nilK (P : Program) (t : TypeId) : Nat :=
  match P.underlying t with
  | some (.pointer _) => 0
  | some (.interface _) => 1
  | some (.slice _) => 2
  | some (.func _ _ _) => 3
  | _ => 4
def nilFit (P : Program) (t : TypeId) (v : Value) : Bool := isKind (nilK P t) v
def notConst : Operand → Bool
  | .const _ => false
  | _ => true
def leavesF (P : Program) (rec : TypeId → Option (List (Nat × Nat))) : List Field → Option (List (Nat × Nat))
  | [] => some []
  | f :: fs => if f.name = "_" then none else match tySize P f.type, tyAgg P f.type, rec f.type, leavesF P rec fs with
    | some m, some _, some l, some r => if l.all (fun p => p.1 < m) then some (l.map (fun p => (f.offset + p.1, p.2)) ++ r) else none
    | _, _, _, _ => none
def leaves (P : Program) : Nat → TypeId → Option (List (Nat × Nat))
  | 0, _ => none
  | d + 1, t => match P.underlying t with
    | some (.int _) => some [(0, 0)]
    | some .bool => some [(0, 1)]
    | some .string => some [(0, 2)]
    | some (.struct fs) => if P.stoodInHeld t then none else leavesF P (leaves P d) fs.toList
    | some (.array n e) => match tySize P e, tyAgg P e, leaves P d e with
      | some m, some _, some l => if l.all (fun p => p.1 < m) then some ((List.range n).flatMap fun i => l.map (fun p => (i * m + p.1, p.2))) else none
      | _, _, _ => none
    | _ => none
def cBin (P : Program) (o : Oper) (op : BinOp) (t : TypeId) (x y : Operand) : Option LO :=
  if nilTy P t y && notConst x && (op == .eql || op == .neq) then some (.isNil (nilK P t) (op == .neq) x) else
  match P.underlying t with
  | some (.int _) | some .string => some (.bin op x y)
  | some .bool => some (.binB op x y)
  | some (.struct _) | some (.array _ _) => match leaves P 20 t with
    | some l => if P.eqGuardType P.depth t = false ∧ (op == .eql || op == .neq) then some (.eqA l (op == .neq) x y) else none
    | none => none
  | _ => some (.pr o)
def cConv (P : Program) (o : Oper) (src dst : TypeId) (x : Operand) : Option LO :=
  match P.underlying src, P.underlying dst with
  | some (.int _), some (.int k) => some (.convI k x)
  | some (.int _), some (.float k) => some (.convIF k x)
  | some .string, some .string => some (.convS x)
  | some (.float _), some _ => some (.pr o)
  | some (.slice e), some .string => match P.underlying e, tySize P e with
    | some (.int .u8), some 1 => some (.b2s x)
    | _, _ => none
  | _, _ => none
def cMkI (P : Program) (t : TypeId) (x : Operand) : Option LO :=
  match P.underlying t with
  | some (.interface _) => none
  | some _ => some (.mkI t x)
  | none => none
def cMk (P : Program) (t : TypeId) (l c : Operand) : Option LO :=
  match P.underlying t with
  | some (.slice e) => match P.info? e with
    | some i => match i.zero with
      | some z => if z.cells.toList.all isSc0 ∧ z.cells.size = i.size then some (.mk i.size i.bytes z.cells.toList l c) else none
      | none => none
    | none => none
  | _ => none
def cSlice (P : Program) (t : TypeId) (x : Operand) (lo hi mx : Option Operand) : Option LO :=
  match P.underlying t with
  | some .string => if mx.isNone then some (.slcT x lo hi) else none
  | some (.slice e) => (tySize P e).map fun n => .slc n x lo hi mx
  | some (.array len e) => if mx.isNone then (tySize P e).map fun n => .slcA len n x lo hi else none
  | _ => none
def cLen (P : Program) (ts : List TypeId) (xs : List Operand) : Option LO :=
  match ts, xs with
  | [t], [x] => match P.underlying t with
    | some .string => some (.lenT x)
    | some (.slice _) => some (.lenS x)
    | some (.array n _) => some (.lenA n)
    | _ => none
  | _, _ => none
def cApp (P : Program) (ts : List TypeId) (xs : List Operand) : Option LO :=
  match ts, xs with
  | [t, tx], [s, x] => match P.underlying t, P.underlying tx with
    | some (.slice e), some (.slice _) => match P.info? e with
      | some i => match i.zero with
        | some z => if z.cells.size = i.size then some (.app i.size i.bytes s x) else none
        | none => none
      | none => none
    | _, _ => none
  | _, _ => none
def cCpy (P : Program) (ts : List TypeId) (xs : List Operand) : Option LO :=
  match ts, xs with
  | [t, tx], [d, s] => match P.underlying t, P.underlying tx with
    | some (.slice e), some (.slice _) => match P.info? e with
      | some i => some (.cpy i.size d s)
      | none => none
    | _, _ => none
  | _, _ => none
def cCall (P : Program) (c : Call) : Option LO :=
  match c.callee with
  | .value f => some (.call f c.args.toList)
  | .builtin .len => cLen P c.argTypes.toList c.args.toList
  | .builtin .append => cApp P c.argTypes.toList c.args.toList
  | .builtin .copy => cCpy P c.argTypes.toList c.args.toList
  | .builtin .min => match c.args.toList with
    | [x, y] => some (.mn x y)
    | _ => none
  | .builtin .max => match c.args.toList with
    | [x, y] => some (.mx x y)
    | _ => none
  | _ => none

def compIn (P : Program) (m : Bool) (o : Oper) : Op → Option LO
  | .move x | .assign x => some (.mv x)
  | .nilCheck x => some (.nilchk x)
  | .pick c a b => some (.pick c a b)
  | .alloc e => cAlloc P e
  | .box _ x => some (.box x)
  | .build t parts => cBuild P t parts.toList
  | .buildSlice t len parts => cRow P m t len parts.toList
  | .load t a => cLoad P t a
  | .store t a x => cStore P t a x
  | .binOp op t x y _ => cBin P o op t x y
  | .unOp op _ x => some (.un op x)
  | .convert s d x => cConv P o s d x
  | .makeInterface t x => cMkI P t x
  | .makeFunc (.func f) first captured => some (.mkf f first.toList captured.toList)
  | .makeSlice t l c => cMk P t l c
  | .slice t x lo hi mx => if mx.isSome && hi.isNone then none else cSlice P t x lo hi mx
  | .fieldAddr s x f => cFieldAddr P s x f
  | .field s x f => cField P s x f
  | .indexAddr t x i => cIndexAddr P t x i
  | .index t x i => cIndex P t x i
  | .extract t i => some (.ext t i)
  | .call c => cCall P c
  | _ => none

def comp (P : Program) (m : Bool) (o : Oper) : Option LO := if o.op.operands.all okX then compIn P m o o.op else none

/-! ### Relations of frames -/
def ERel (N : Nat) (ρ : Nat → RB) (h : Array Obj) (env : Nat → Value) (a : Act) : Prop := ∀ t, VRel N ρ h (env t) (a.tmps.getD t undef)

theorem ERel.ev {N : Nat} {ρ : Nat → RB} {h : Array Obj} {env : Nat → Value} {a : Act} (E : ERel N ρ h env a) {x : Operand} (hx : okX x = true) : VRel N ρ h (evO env x) (a.eval x) := by
  cases x with
  | tmp t => exact E t
  | const v => exact .ofSc hx
  | func f => exact .func f #[] #[] #[] #[] rfl (fun i v v' h _ => by simp at h) rfl (fun i v v' h _ => by simp at h)
  | global g => simp [okX] at hx

theorem ERel.mono {N N' : Nat} {ρ ρ' : Nat → RB} {h h' : Array Obj} {env : Nat → Value} {a : Act} (E : ERel N ρ h env a) (x : Ext N ρ h N' ρ' h') : ERel N' ρ' h' env a := fun t => (E t).mono x

/-- What an operation that is no call comes to. -/
def NRes (w0 : World) (ρ : Nat → RB) (H : Heap) (w : World) (v : Value) (H' : Heap) (r : Result Next) : Prop :=
  ∃ n v' w' ρ', r = .ok n w' ∧ (n = .value v' ∨ (n = .skip ∧ v' = undef)) ∧ VRel H'.length ρ' w'.heap v v' ∧ Rel w0 ρ' H' w' ∧ Ext H.length ρ w.heap H'.length ρ' w'.heap

theorem Res.value {w0 w : World} {P : Program} {ρ : Nat → RB} {H H' : Heap} {v : Value} {s : Sem Value} (h : Res w0 ρ H w v H' (s.run P w)) :
    NRes w0 ρ H w v H' ((do pure (Next.value (← s)) : Sem Next).run P w) := by
  obtain ⟨v', w', ρ', h1, h2, h3, h4⟩ := h
  exact ⟨.value v', v', w', ρ', by simp [h1], .inl rfl, h2, h3, h4⟩

/-- Nothing of the world turns. -/
theorem Res.same {w0 w : World} {ρ : Nat → RB} {H : Heap} (R : Rel w0 ρ H w) {v v' : Value} {r : Result Value} (hr : r = .ok v' w) (hv : VRel H.length ρ w.heap v v') : Res w0 ρ H w v H r :=
  ⟨v', w, ρ, hr, hv, R, .refl _ _ _⟩

theorem run_sizeOf {P : Program} {t : TypeId} {n : Nat} (h : tySize P t = some n) (w : World) : (sizeOf t).run P w = .ok n w := by
  simp only [tySize, Option.map_eq_some_iff] at h
  obtain ⟨i, hi, rfl⟩ := h
  simp [sizeOf, typeInfo, hi]
theorem run_zeroValue {P : Program} {t : TypeId} {z : Value} (h : tyZero P t = some z) (w : World) : (zeroValue t).run P w = .ok z w := by
  simp only [tyZero, Option.bind_eq_some_iff] at h
  obtain ⟨i, hi, hz⟩ := h
  simp [zeroValue, typeInfo, hi, hz]
theorem run_isAgg {P : Program} {t : TypeId} {b : Bool} (h : tyAgg P t = some b) (w : World) : (isAgg t).run P w = .ok b w := by
  simp only [tyAgg, Option.map_eq_some_iff] at h
  obtain ⟨d, hd, hb⟩ := h
  unfold isAgg
  rw [Sem.run_bind, run_underlying hd]
  simp only [Result.andThen_ok]
  cases d <;> simp_all

section
variable {P : Program} {T : Tab} {fl : Nat} {env : Nat → Value} {H H' : Heap} {w0 w : World} {ρ : Nat → RB} {a : Act} {v : Value}

theorem load_res (R : Rel w0 ρ H w) (E : ERel H.length ρ w.heap env a) {t : TypeId} {x : Operand} {lo : LO} (hx : okX x = true) (hc : cLoad P t x = some lo) (hs : lo.step P T fl env H = some (v, H')) :
    Res w0 ρ H w v H' ((Instr.loadAt t (a.eval x)).run P w) := by
  have hv := E.ev hx
  unfold cLoad at hc
  split at hc
  · rename_i ha hn
    obtain rfl := Option.some.inj hc
    simp only [LO.step] at hs
    split at hs
    · rename_i ad hev
      simp only [Option.map_eq_some_iff, Prod.mk.injEq] at hs
      obtain ⟨u, hu, rfl, rfl⟩ := hs
      rw [hev] at hv
      obtain ⟨v', h1, h2, h3⟩ := R.rd1 hu hv
      refine Res.same R ?_ h3
      rw [h1]
      simp [Instr.loadAt, Instr.sureAddr, loadVar, run_isAgg ha, h2]
    · simp at hs
  · rename_i n ha hn
    obtain rfl := Option.some.inj hc
    simp only [LO.step] at hs
    split at hs
    · rename_i ad hev
      simp only [Option.map_eq_some_iff, Prod.mk.injEq] at hs
      obtain ⟨l, hl, rfl, rfl⟩ := hs
      rw [hev] at hv
      obtain ⟨b, hb, hsp, hle, rfl⟩ := rdN_some hl
      obtain ⟨_, hx'⟩ := hv.ptrAt (by rw [(R.box _ b hb).gen]; exact hsp)
      obtain ⟨l', k1, k2, k3⟩ := R.cellsAt hb ad.off n hle
      refine Res.same R (v' := .agg l'.toArray) ?_ k3.agg
      rw [hx']
      have := run_loadCells_list (P := P) w ⟨(ρ ad.block).blk, (ρ ad.block).base + ad.off, none⟩ l' (fun j u hj => by rw [Addr.add_lit]; exact k2 j u hj)
      rw [k1] at this
      simp [Instr.loadAt, Instr.sureAddr, loadVar, run_isAgg ha, run_sizeOf hn, this]
    · simp at hs
  · simp at hc

theorem store_res (R : Rel w0 ρ H w) (E : ERel H.length ρ w.heap env a) {t : TypeId} {x y : Operand} {lo : LO} (hx : okX x = true) (hy : okX y = true) (hc : cStore P t x y = some lo) (hs : lo.step P T fl env H = some (v, H')) :
    ∃ w' ρ', v = undef ∧ (Instr.storeAt t (a.eval x) (a.eval y)).run P w = .ok () w' ∧ Rel w0 ρ' H' w' ∧ Ext H.length ρ w.heap H'.length ρ' w'.heap := by
  have hv := E.ev hx
  have hv2 := (E.ev hy).cells
  simp only [cStore, Option.map_eq_some_iff] at hc
  obtain ⟨n, hn, rfl⟩ := hc
  simp only [LO.step] at hs
  split at hs
  · rename_i ad hev
    split at hs
    · rename_i hsz
      simp only [Option.map_eq_some_iff, Prod.mk.injEq] at hs
      obtain ⟨K, hK, rfl, rfl⟩ := hs
      rw [hev] at hv
      obtain ⟨w', ρ', h1, h2, h3, h4⟩ := R.wrN (P := P) hK hv hv2
      refine ⟨w', ρ', rfl, ?_, h3, h4⟩
      rw [h1]
      have hsz' : ¬ (a.eval y).cells.size ≠ n := by
        have := hv2.1
        simp only [Array.length_toList] at this
        omega
      simp only [Instr.storeAt, Instr.sureAddr, storeVar, Sem.run_bind, Sem.run_pure, Result.andThen_ok, run_sizeOf hn, hsz', if_false]
      exact h2
    · simp at hs
  · simp at hs

theorem alloc_res (R : Rel w0 ρ H w) {t : TypeId} {lo : LO} (hc : cAlloc P t = some lo) (hs : lo.step P T fl env H = some (v, H')) :
    Res w0 ρ H w v H' ((Instr.alloc t true (.tuple #[])).run P w) := by
  unfold cAlloc at hc
  split at hc
  · rename_i z hz
    split at hc
    · rename_i hall
      obtain rfl := Option.some.inj hc
      simp only [LO.step, Option.some.injEq, Prod.mk.injEq] at hs
      obtain ⟨rfl, rfl⟩ := hs
      have hl : LRel H.length ρ w.heap z.cells.toList z.cells.toList := .ofSc0 hall
      obtain ⟨ρ', h1, h2, h3⟩ := R.push { cells := z.cells.toList } rfl rfl z.cells t (fun j u hj => by
        obtain ⟨u', k1, k2⟩ := hl.get hj
        exact ⟨u', by simpa using k1, k2⟩)
      refine ⟨.pointer (some ⟨w.heap.size, 0, none⟩), _, ρ', by simp [Instr.alloc, run_zeroValue hz, newVar, newRow], ?_, h2, h3⟩
      exact .ptr _ _ _ _ (by simp) (by omega) fun _ => by rw [h1]
    · simp at hc
  · simp at hc

theorem box_res (R : Rel w0 ρ H w) (E : ERel H.length ρ w.heap env a) {t : TypeId} {x : Operand} (hx : okX x = true) (hs : (LO.box x).step P T fl env H = some (v, H')) :
    Res w0 ρ H w v H' ((Instr.box t (a.eval x)).run P w) := by
  simp only [LO.step, Option.some.injEq, Prod.mk.injEq] at hs
  obtain ⟨rfl, rfl⟩ := hs
  have hl := (E.ev hx).cells
  obtain ⟨ρ', h1, h2, h3⟩ := R.push { cells := (evO env x).cells.toList } rfl rfl (a.eval x).cells t (fun j u hj => by
    obtain ⟨u', k1, k2⟩ := hl.get hj
    exact ⟨u', by simpa using k1, k2⟩)
  refine ⟨.pointer (some ⟨w.heap.size, 0, none⟩), _, ρ', by simp [Instr.box, newVar, newRow], ?_, h2, h3⟩
  exact .ptr _ _ _ _ (by simp) (by omega) fun _ => by rw [h1]

end
end Go.Lev


set_option linter.unusedVariables false
set_option linter.unusedSimpArgs false
namespace Go.Lev
open Go Go.RowKit

theorem foldl_seg (off : Nat) : ∀ (l : List Value) (k : Nat) (cs : Array Value), off + k + l.length ≤ cs.size →
    ((l.zipIdx k).foldl (fun (cs : Array Value) (p : Value × Nat) => cs.setIfInBounds (off + p.2) p.1) cs).toList = setSeg cs.toList (off + k) l
  | [], k, cs, h => by simp [setSeg]
  | c :: l, k, cs, h => by
    simp only [List.length_cons] at h
    rw [List.zipIdx_cons, List.foldl_cons]
    have ih := foldl_seg off l (k + 1) (cs.setIfInBounds (off + k) c) (by simp; omega)
    rw [ih]
    apply List.ext_getElem?
    intro i
    rw [setSeg_get _ _ _ (by simp; omega), setSeg_get _ _ _ (by simp; omega)]
    simp only [Array.toList_setIfInBounds, List.getElem?_set, Array.length_toList, List.length_cons]
    by_cases h1 : i = off + k
    · subst h1
      rw [if_neg (by omega), if_pos rfl, if_pos (by omega), if_pos (by omega)]
      simp
    · by_cases h2 : off + k < i ∧ i < off + k + (l.length + 1)
      · rw [if_pos (by omega), if_pos (by omega)]
        have e : i - (off + k) = (i - (off + (k + 1))) + 1 := by omega
        rw [e, List.getElem?_cons_succ]
      · rw [if_neg (by omega), if_neg (by omega), if_neg (by omega)]

theorem fill_rel {N : Nat} {ρ : Nat → RB} {h : Array Obj} {env : Nat → Value} {a : Act} (E : ERel N ρ h env a) (pl : Nat → Option (Nat × Nat)) :
    ∀ (parts : List (Nat × Operand)) (rp : List (Nat × Nat × Operand)) (zero cs : List Value) (zero' : Array Value), parts.all (fun p => okX p.2) = true → resolveParts pl parts = some rp → fillL zero (evParts env rp) = some cs →
      LRel N ρ h zero zero'.toList → ∃ cs' : Array Value, Instr.fill pl zero' (parts.map fun p => (p.1, a.eval p.2)) = some cs' ∧ LRel N ρ h cs cs'.toList
  | [], rp, zero, cs, zero', hok, hr, hf, hz => by
    simp only [resolveParts, Option.some.injEq] at hr
    subst hr
    simp only [evParts, List.map_nil, fillL, Option.some.injEq] at hf
    subst hf
    exact ⟨zero', rfl, hz⟩
  | (i, x) :: rest, rp, zero, cs, zero', hok, hr, hf, hz => by
    simp only [List.all_cons, Bool.and_eq_true] at hok
    simp only [resolveParts] at hr
    split at hr
    · rename_i o s l hpl hl
      obtain rfl := Option.some.inj hr
      simp only [evParts, List.map_cons, fillL] at hf
      split at hf
      · rename_i hc
        have hv := (E.ev hok.1).cells
        have hsz : (a.eval x).cells.size = s := by have := hv.1; simp only [Array.length_toList] at this; omega
        have hzl := hz.1
        simp only [Array.length_toList] at hzl
        have hn1 : ¬ ((a.eval x).cells.size ≠ s ∨ o + (a.eval x).cells.size > zero'.size) := by
          rw [hsz]
          omega
        have e1 : ((a.eval x).cells.zipIdx.foldl (fun (cs : Array Value) (p : Value × Nat) => cs.setIfInBounds (o + p.2) p.1) zero').toList = setSeg zero'.toList o (a.eval x).cells.toList := by
          rw [← Array.foldl_toList, Array.toList_zipIdx]
          have := foldl_seg o (a.eval x).cells.toList 0 zero' (by simp; omega)
          simpa using this
        obtain ⟨cs', h1, h2⟩ := fill_rel E pl rest l _ cs ((a.eval x).cells.zipIdx.foldl (fun (cs : Array Value) (p : Value × Nat) => cs.setIfInBounds (o + p.2) p.1) zero') hok.2 hl hf (by
          rw [e1]
          exact hz.seg hv o)
        refine ⟨cs', ?_, h2⟩
        simp only [List.map_cons, Instr.fill, hpl]
        have hn2 : (decide ((a.eval x).cells.size ≠ s) || decide (o + (a.eval x).cells.size > zero'.size)) = false := by
          simp only [Bool.or_eq_false_iff, decide_eq_false_iff_not]
          exact ⟨fun h => hn1 (.inl h), fun h => hn1 (.inr h)⟩
        rw [hn2]
        exact h1
      · simp at hf
    · simp at hr

theorem mapM_places {P : Program} (w : World) (g : Field → Sem (Nat × Nat)) (hg : ∀ f n, tySize P f.type = some n → (g f).run P w = .ok (f.offset, n) w) : ∀ (fs : List Field) (pl : List (Nat × Nat)), places P fs = some pl →
    (fs.mapM g).run P w = .ok pl w
  | [], pl, h => by simp [places] at h; subst h; simp
  | f :: fs, pl, h => by
    simp only [places] at h
    split at h
    · rename_i n l hn hl
      obtain rfl := Option.some.inj h
      simp [hg f n hn, mapM_places w g hg fs l hl]
    · simp at h

section
variable {P : Program} {T : Tab} {fl : Nat} {env : Nat → Value} {H H' : Heap} {w0 w : World} {ρ : Nat → RB} {a : Act} {v : Value}

theorem parts_map (parts : Array (Nat × Operand)) (f : Operand → Value) : (parts.map fun (i, x) => (i, f x)).toList = parts.toList.map fun p => (p.1, f p.2) := by
  simp [Array.toList_map]

theorem build_res (R : Rel w0 ρ H w) (E : ERel H.length ρ w.heap env a) {t : TypeId} {parts : Array (Nat × Operand)} {lo : LO} (hx : parts.toList.all (fun p => okX p.2) = true) (hc : cBuild P t parts.toList = some lo) (hs : lo.step P T fl env H = some (v, H')) :
    Res w0 ρ H w v H' ((Instr.build t (parts.map fun (i, x) => (i, a.eval x))).run P w) := by
  unfold cBuild at hc
  split at hc
  · rename_i z fields hz hu
    split at hc
    · rename_i hall
      split at hc
      · rename_i pl hpl
        simp only [Option.map_eq_some_iff] at hc
        obtain ⟨rp, hrp, rfl⟩ := hc
        simp only [LO.step, Option.map_eq_some_iff, Prod.mk.injEq] at hs
        obtain ⟨cs, hcs, rfl, rfl⟩ := hs
        obtain ⟨cs', h1, h2⟩ := fill_rel E (pl[·]?) parts.toList rp _ cs z.cells hx hrp hcs (.ofSc0 hall)
        refine Res.same R (v' := .agg cs') ?_ (by have := h2.agg; simpa using this)
        have hm := mapM_places (P := P) w (fun f => do pure (f.offset, ← sizeOf f.type)) (fun f n hn => by simp [run_sizeOf hn]) fields.toList pl hpl
        have hp : ∀ i : Nat, (pl.toArray)[i]? = pl[i]? := fun i => by simp
        unfold Instr.build
        simp only [Sem.run_bind, run_zeroValue hz, Result.andThen_ok, run_underlying hu, Array.mapM_eq_mapM_toList, Sem.run_map, hm, parts_map]
        simp only [hp, h1]
        rfl
      · simp at hc
    · simp at hc
  · rename_i z n e hz hu
    split at hc
    · rename_i hall
      split at hc
      · rename_i sz hsz
        simp only [Option.map_eq_some_iff] at hc
        obtain ⟨rp, hrp, rfl⟩ := hc
        simp only [LO.step, Option.map_eq_some_iff, Prod.mk.injEq] at hs
        obtain ⟨cs, hcs, rfl, rfl⟩ := hs
        obtain ⟨cs', h1, h2⟩ := fill_rel E _ parts.toList rp _ cs z.cells hx hrp hcs (.ofSc0 hall)
        refine Res.same R (v' := .agg cs') ?_ (by have := h2.agg; simpa using this)
        unfold Instr.build
        simp only [Sem.run_bind, run_zeroValue hz, Result.andThen_ok, run_underlying hu, run_sizeOf hsz, parts_map, h1]
        rfl
      · simp at hc
    · simp at hc
  · simp at hc

theorem zeroRow_eq (z : Array Value) (n : Nat) (h : 0 < z.size) : ((Array.range n).map (z[· % z.size]!)).toList = zeroRow z.toList n := by
  unfold zeroRow
  rw [Array.toList_map, Array.toList_range]
  apply List.map_congr_left
  intro i _
  have : i % z.size < z.size := Nat.mod_lt _ h
  simp [List.getD_eq_getElem?_getD, this]

theorem zeroRow_sc (z : List Value) (n : Nat) (h : z.all isSc0 = true) (h0 : 0 < z.length) : (zeroRow z n).all isSc0 = true := by
  rw [List.all_eq_true] at h ⊢
  intro x hx
  unfold zeroRow at hx
  obtain ⟨i, _, rfl⟩ := List.mem_map.1 hx
  have : i % z.length < z.length := Nat.mod_lt _ h0
  rw [List.getD_eq_getElem?_getD, List.getElem?_eq_getElem this]
  exact h _ (List.getElem_mem this)

theorem row_res (R : Rel w0 ρ H w) (E : ERel H.length ρ w.heap env a) {t : TypeId} {m : Bool} {len : Nat} {parts : Array (Nat × Operand)} {lo : LO} (hx : parts.toList.all (fun p => okX p.2) = true) (hc : cRow P m t len parts.toList = some lo)
    (hs : lo.step P T fl env H = some (v, H')) : Res w0 ρ H w v H' ((Instr.buildSlice t len (parts.map fun (i, x) => (i, a.eval x))).run P w) := by
  unfold cRow at hc
  split at hc
  · rename_i e hu
    split at hc
    · rename_i n z hn hz
      split at hc
      · rename_i hcond
        obtain ⟨hall, hzs, hn0, hlim⟩ := hcond
        simp only [Option.map_eq_some_iff] at hc
        obtain ⟨rp, hrp, rfl⟩ := hc
        have hz0 : 0 < z.cells.size := by omega
        have key : ∀ cs, fillL (zeroRow z.cells.toList (len * n)) (evParts env rp) = some cs → ∃ cs' : Array Value, LRel H.length ρ w.heap cs cs'.toList ∧
            (Instr.buildSlice t len (parts.map fun (i, x) => (i, a.eval x))).run P w = .ok (.slice (some ⟨w.heap.size, 0, none⟩) len len) (w.alloc (.cells cs' e)) := by
          intro cs hcs
          have hzr : zeroRow z.cells.toList (len * n) = ((Array.range (len * n)).map (z.cells[· % z.cells.size]!)).toList := (zeroRow_eq _ _ hz0).symm
          obtain ⟨cs', h1, h2⟩ := fill_rel E (fun i => some (i * n, n)) parts.toList rp _ cs ((Array.range (len * n)).map (z.cells[· % z.cells.size]!)) hx hrp hcs (by
            rw [← hzr]
            exact .ofSc0 (zeroRow_sc _ _ hall (by simpa using hz0)))
          refine ⟨cs', h2, ?_⟩
          have hlim' : ¬ (len * n > 2 ^ 24) := by simpa using hlim
          unfold Instr.buildSlice
          simp only [Sem.run_bind, run_underlying hu, Result.andThen_ok, run_sizeOf hn, hlim', if_false, parts_map]
          by_cases h0 : len * n = 0
          · have e0 : ((Array.range (len * n)).map (z.cells[· % z.cells.size]!)) = ((Array.range (len * n)).map ((#[] : Array Value)[· % (#[] : Array Value).size]!)) := by rw [h0]; simp
            rw [e0] at h1
            rw [if_pos h0]
            simp at h1
            simp [h1, newRow]
          · simp only [h0, if_false, Sem.run_bind, run_zeroValue hz, Result.andThen_ok, Sem.run_pure, h1]
            simp [newRow]
        cases m with
        | false =>
          simp only [LO.step, Option.map_eq_some_iff, Prod.mk.injEq, Bool.false_eq_true, if_false] at hs
          obtain ⟨cs, hcs, rfl, rfl⟩ := hs
          obtain ⟨cs', h1, h2⟩ := key cs hcs
          obtain ⟨ρ', k1, k2, k3⟩ := R.push { cells := cs, gen := 0, row := n } rfl rfl cs' e (fun j u hj => by
            obtain ⟨u', q1, q2⟩ := h1.get hj
            exact ⟨u', by simpa using q1, q2⟩)
          refine ⟨_, _, ρ', h2, ?_, k2, k3⟩
          refine .slice _ _ _ _ _ _ _ (by simp) (by omega) (Nat.le_refl _) fun _ => ⟨fun _ => by rw [k1], fun _ _ _ => ?_⟩
          rw [k1]
          have hl := h1.1
          have hlen : cs.length = len * n := by
            have hfl : ∀ (ps : List (Nat × Nat × Value)) (z cs : List Value), fillL z ps = some cs → cs.length = z.length := by
              intro ps
              induction ps with
              | nil => intro z cs h; simp [fillL] at h; rw [h]
              | cons p ps ih =>
                obtain ⟨o, s, u⟩ := p
                intro z cs h
                simp only [fillL] at h
                split at h
                · rename_i hcc
                  rw [ih _ _ h]
                  simp [setSeg]
                  omega
                · simp at h
            rw [hfl _ _ _ hcs]
            simp [zeroRow]
          simp only [Array.length_toList] at hl
          simp only [Nat.zero_add]
          omega
        | true =>
          simp only [LO.step, Option.map_eq_some_iff, Prod.mk.injEq, if_true] at hs
          obtain ⟨cs, hcs, rfl, rfl⟩ := hs
          obtain ⟨cs', h1, h2⟩ := key cs hcs
          have x : Ext H.length ρ w.heap H.length ρ (w.alloc (.cells cs' e)).heap :=
            ⟨Nat.le_refl _, fun _ _ => ⟨Nat.le_refl _, fun _ => rfl⟩, fun _ h => .inl ⟨h, rfl⟩, by simp, fun k hk _ => Below.heap_alloc w _ k hk⟩
          refine ⟨_, _, ρ, h2, ?_, ?_, x⟩
          · refine .marker cs.toArray cs' w.heap.size len len e (0, 0) (by simp) (Nat.le_refl _) (fun id hid => ?_) (by show (w.heap.push _)[w.heap.size]? = _; simp) (by simpa using h1.1) fun i u u' hi hi' => ?_
            · have := R.blkLt hid; omega
            · exact (h1.2 i u u' (by simpa using hi) (by simpa using hi')).mono x
          · refine ⟨R.below.alloc R.below.size _, fun id b hb => ?_, R.sep⟩
            have hB := R.box id b hb
            obtain ⟨cs1, e1, fr1, q1, q2, q3, q4⟩ := hB.cells
            refine ⟨hB.gen, hB.row, hB.fresh, cs1, e1, fr1, ?_, q2, q3, fun i u hu => ?_⟩
            · rw [Below.heap_alloc w _ _ (R.boxBlk hb), q1]
            · obtain ⟨u', g1, g2⟩ := q4 i u hu
              exact ⟨u', g1, g2.mono x⟩
      · simp at hc
    · simp at hc
  · simp at hc

theorem fieldAddr_res (R : Rel w0 ρ H w) (E : ERel H.length ρ w.heap env a) {t : TypeId} {x : Operand} {f : Nat} {lo : LO} (hx : okX x = true) (hc : cFieldAddr P t x f = some lo) (hs : lo.step P T fl env H = some (v, H')) :
    Res w0 ρ H w v H' ((Instr.fieldAt t (a.eval x) f).run P w) := by
  have hv := E.ev hx
  unfold cFieldAddr at hc
  split at hc
  · rename_i fields hu
    split at hc
    · rename_i fd hfd
      split at hc
      · rename_i n hn
        split at hc
        · simp at hc
        · rename_i hn0
          obtain rfl := Option.some.inj hc
          simp only [LO.step] at hs
          split at hs
          · rename_i ad hev
            simp only [Option.some.injEq, Prod.mk.injEq] at hs
            obtain ⟨rfl, rfl⟩ := hs
            rw [hev] at hv
            generalize a.eval x = X at hv ⊢
            cases hv with
            | ptr id off g ra hid hg ha =>
              refine Res.same R (v' := .pointer (some (ra.add fd.offset))) ?_ (.ptr _ _ _ _ hid hg fun e => ?_)
              · simp [Instr.fieldAt, run_underlying hu, hfd, Instr.sureAddr, fieldPlace, run_sizeOf hn, hn0]
              · rw [ha e, Addr.add_lit, Nat.add_assoc]
          · simp at hs
      · simp at hc
    · simp at hc
  · simp at hc

theorem run_part {t : TypeId} {cs : Array Value} {off : Nat} {b : Bool} {n : Nat} (hb : tyAgg P t = some b) (hn : tySize P t = some n) (w : World) :
    (part t cs off).run P w = if b then .ok (.agg (cs.extract off (off + n))) w else match cs[off]? with
      | some v => .ok v w
      | none => .halt (.stuck "part: no such cell") w := by
  unfold part
  rw [Sem.run_bind, run_isAgg hb]
  simp only [Result.andThen_ok]
  cases b
  · simp only [Bool.false_eq_true, if_false]
    cases cs[off]? <;> rfl
  · simp only [if_true, Sem.run_bind, run_sizeOf hn, Result.andThen_ok, Sem.run_pure]

theorem LRel.extract {N : Nat} {ρ : Nat → RB} {h : Array Obj} {cs cs' : Array Value} (hs : cs.size = cs'.size) (hc : ∀ (i : Nat) (v v' : Value), cs[i]? = some v → cs'[i]? = some v' → VRel N ρ h v v') (i j : Nat) :
    VRel N ρ h (.agg (cs.extract i j)) (.agg (cs'.extract i j)) := by
  refine .agg _ _ (by simp [hs]) fun k u u' h1 h2 => ?_
  rw [Array.getElem?_extract] at h1 h2
  split at h1
  · rw [if_pos (by rename_i q; rw [← hs]; exact q)] at h2
    exact hc _ u u' h1 h2
  · simp at h1

theorem field_res (R : Rel w0 ρ H w) (E : ERel H.length ρ w.heap env a) {t : TypeId} {x : Operand} {f : Nat} {lo : LO} (hx : okX x = true) (hc : cField P t x f = some lo) (hs : lo.step P T fl env H = some (v, H')) :
    Res w0 ρ H w v H' ((Instr.field t (a.eval x) f).run P w) := by
  have hv := E.ev hx
  unfold cField at hc
  split at hc
  · rename_i fields hu
    split at hc
    · rename_i fd hfd
      split at hc
      · rename_i n ha hn
        obtain rfl := Option.some.inj hc
        simp only [LO.step] at hs
        split at hs
        · rename_i cs hev
          simp only [Option.map_eq_some_iff, Prod.mk.injEq] at hs
          obtain ⟨u, hu', rfl, rfl⟩ := hs
          rw [hev] at hv
          generalize a.eval x = X at hv ⊢
          cases hv with
          | agg _ cs' hsz hcc =>
            have hi : fd.offset < cs'.size := by have := (Array.getElem?_eq_some_iff.1 hu').1; omega
            refine Res.same R (v' := cs'[fd.offset]) ?_ (hcc _ _ _ hu' (Array.getElem?_eq_getElem hi))
            simp [Instr.field, run_underlying hu, hfd, asAgg, run_part ha hn, hi]
        · simp at hs
      · rename_i n ha hn
        obtain rfl := Option.some.inj hc
        simp only [LO.step] at hs
        split at hs
        · rename_i cs hev
          simp only [Option.some.injEq, Prod.mk.injEq] at hs
          obtain ⟨rfl, rfl⟩ := hs
          rw [hev] at hv
          generalize a.eval x = X at hv ⊢
          cases hv with
          | agg _ cs' hsz hcc =>
            refine Res.same R (v' := .agg (cs'.extract fd.offset (fd.offset + n))) ?_ (LRel.extract hsz hcc _ _)
            simp [Instr.field, run_underlying hu, hfd, asAgg, run_part ha hn]
        · simp at hs
      · simp at hc
    · simp at hc
  · simp at hc

theorem int_of {N : Nat} {ρ : Nat → RB} {h : Array Obj} {k : IntKind} {n : Int} {x : Value} (r : VRel N ρ h (.int k n) x) : x = .int k n := by cases r; rfl

theorem indexAddr_res (R : Rel w0 ρ H w) (E : ERel H.length ρ w.heap env a) {t : TypeId} {x y : Operand} {lo : LO} (hx : okX x = true) (hy : okX y = true) (hc : cIndexAddr P t x y = some lo) (hs : lo.step P T fl env H = some (v, H')) :
    Res w0 ρ H w v H' ((Instr.indexAt t (a.eval x) (a.eval y)).run P w) := by
  have hv := E.ev hx
  have hv2 := E.ev hy
  unfold cIndexAddr at hc
  split at hc
  · rename_i len e hu
    simp only [Option.map_eq_some_iff] at hc
    obtain ⟨n, hn, rfl⟩ := hc
    simp only [LO.step] at hs
    split at hs
    · rename_i ad k i hev hev2
      split at hs
      · rename_i hb
        simp only [Option.some.injEq, Prod.mk.injEq] at hs
        obtain ⟨rfl, rfl⟩ := hs
        rw [hev] at hv
        rw [hev2] at hv2
        have e2 := int_of hv2
        generalize a.eval x = X at hv ⊢
        cases hv with
        | ptr id off g ra hid hg ha =>
          refine Res.same R (v' := .pointer (some (ra.add (i.toNat * n)))) ?_ (.ptr _ _ _ _ hid hg fun e => ?_)
          · rw [e2]
            simp [Instr.indexAt, asIntOf, run_underlying hu, Instr.sureAddr, hb, run_sizeOf hn]
          · rw [ha e, Addr.add_lit, Nat.add_assoc]
      · simp at hs
    · simp at hs
  · rename_i e hu
    simp only [Option.map_eq_some_iff] at hc
    obtain ⟨n, hn, rfl⟩ := hc
    simp only [LO.step] at hs
    split at hs
    · rename_i ad len c k i hev hev2
      split at hs
      · rename_i hb
        simp only [Option.some.injEq, Prod.mk.injEq] at hs
        obtain ⟨rfl, rfl⟩ := hs
        rw [hev] at hv
        rw [hev2] at hv2
        have e2 := int_of hv2
        generalize a.eval x = X at hv ⊢
        cases hv with
        | slice id off g _ _ c' ra hid hg hnc ha =>
          refine Res.same R (v' := .pointer (some (ra.add (i.toNat * n)))) ?_ (.ptr _ _ _ _ hid hg fun e => ?_)
          · rw [e2]
            simp [Instr.indexAt, asIntOf, run_underlying hu, hb, run_sizeOf hn]
          · rw [(ha e).1 (by omega), Addr.add_lit, Nat.add_assoc]
      · simp at hs
    · simp at hs
  · simp at hc

end
end Go.Lev


set_option linter.unusedVariables false
set_option linter.unusedSimpArgs false
namespace Go.Lev
open Go Go.RowKit

section
variable {P : Program} {T : Tab} {fl : Nat} {env : Nat → Value} {H H' : Heap} {w0 w : World} {ρ : Nat → RB} {a : Act} {v : Value}

theorem index_res (R : Rel w0 ρ H w) (E : ERel H.length ρ w.heap env a) {t : TypeId} {x y : Operand} {lo : LO} (hx : okX x = true) (hy : okX y = true) (hc : cIndex P t x y = some lo) (hs : lo.step P T fl env H = some (v, H')) :
    Res w0 ρ H w v H' ((Instr.index t (a.eval x) (a.eval y)).run P w) := by
  have hv := E.ev hx
  have hv2 := E.ev hy
  unfold cIndex at hc
  split at hc
  · rename_i len e hu
    split at hc
    · rename_i ha hn
      obtain rfl := Option.some.inj hc
      simp only [LO.step] at hs
      split at hs
      · rename_i cs k i hev hev2
        split at hs
        · rename_i hb
          simp only [Option.map_eq_some_iff, Prod.mk.injEq] at hs
          obtain ⟨u, hu', rfl, rfl⟩ := hs
          rw [hev] at hv
          rw [hev2] at hv2
          have e2 := int_of hv2
          generalize a.eval x = X at hv ⊢
          cases hv with
          | agg _ cs' hsz hcc =>
            have hi : i.toNat < cs'.size := by have := (Array.getElem?_eq_some_iff.1 hu').1; omega
            refine Res.same R (v' := cs'[i.toNat]) ?_ (hcc _ _ _ hu' (Array.getElem?_eq_getElem hi))
            rw [e2]
            simp [Instr.index, asIntOf, run_underlying hu, hb, run_sizeOf hn, run_part ha hn, hi]
        · simp at hs
      · simp at hs
    · rename_i n ha hn
      obtain rfl := Option.some.inj hc
      simp only [LO.step] at hs
      split at hs
      · rename_i cs k i hev hev2
        split at hs
        · rename_i hb
          simp only [Option.some.injEq, Prod.mk.injEq] at hs
          obtain ⟨rfl, rfl⟩ := hs
          rw [hev] at hv
          rw [hev2] at hv2
          have e2 := int_of hv2
          generalize a.eval x = X at hv ⊢
          cases hv with
          | agg _ cs' hsz hcc =>
            refine Res.same R (v' := .agg (cs'.extract (i.toNat * n) (i.toNat * n + n))) ?_ (LRel.extract hsz hcc _ _)
            rw [e2]
            simp [Instr.index, asIntOf, run_underlying hu, hb, run_sizeOf hn, run_part ha hn]
        · simp at hs
      · simp at hs
    · simp at hc
  · rename_i hu
    obtain rfl := Option.some.inj hc
    simp only [LO.step] at hs
    split at hs
    · rename_i s k i hev hev2
      split at hs
      · rename_i hb
        simp only [Option.map_eq_some_iff, Prod.mk.injEq] at hs
        obtain ⟨u, hu', rfl, rfl⟩ := hs
        rw [hev] at hv
        rw [hev2] at hv2
        have e2 := int_of hv2
        generalize a.eval x = X at hv ⊢
        cases hv with
        | string _ =>
          refine Res.same R ?_ (.int _ _)
          rw [e2]
          have hg : s[i.toNat]? = some u := by
            have := (List.getElem?_eq_some_iff.1 hu')
            obtain ⟨h1, h2⟩ := this
            have h3 : i.toNat < s.size := by simpa using h1
            rw [getElem?_pos s i.toNat h3]
            congr 1
          simp [Instr.index, asIntOf, run_underlying hu, hb, hg]
      · simp at hs
    · simp at hs
  · simp at hc

theorem binInt_run (op : BinOp) (k : IntKind) (x y : Int) (v : Value) (h : binInt op k x y = some v) (hs : isShift op = false) (t : TypeId) : (binOp op t (.int k x) (.int k y)).run P w = .ok v w := by
  cases op <;> simp_all [binInt, binOp, Op.intArith, Op.intDiv, Op.intBits, Op.intCmp, isShift]
  all_goals (split at h <;> simp_all)

theorem binShift_run (op : BinOp) (k k' : IntKind) (x y : Int) (v : Value) (h : binShift op k x y = some v) (hs : isShift op = true) (t : TypeId) : (binOp op t (.int k x) (.int k' y)).run P w = .ok v w := by
  unfold binShift at h
  split at h
  · simp at h
  · rename_i hy
    cases op <;> simp_all [binOp, Op.shift, isShift] <;> (intro hlt; omega)

theorem binStr_run (op : BinOp) (x y : ByteArray) (v : Value) (h : binStr op x y = some v) (t : TypeId) : (binOp op t (.string x) (.string y)).run P w = .ok v w := by
  cases op <;> simp_all [binStr, binOp, Op.stringOp]
  obtain ⟨hle, rfl⟩ := h
  have hm : IntKind.i64.max = 9223372036854775807 := by decide
  have : ¬ (IntKind.i64.max < (x.size : Int) + (y.size : Int)) := by
    omega
  simp [this]
  all_goals omega

theorem run_equal_bool {t : TypeId} (hu : P.underlying t = some .bool) (x y : Bool) : (Op.equal t (.bool x) (.bool y)).run P w = .ok (x == y) w := by
  show (Op.equalIn (9999 + 1) t (.bool x) (.bool y)).run P w = _
  rw [Op.equalIn]
  simp [run_underlying hu]

theorem eqGuard_int (op : BinOp) (t : TypeId) (x y : Operand) (A B : Value) (h1 : A ≠ .nilIface) (h2 : ∀ cs, A ≠ .agg cs) : (eqGuard op t x y A B).run P w = .ok () w := by
  cases op <;> cases A <;> first | rfl | exact absurd rfl h1 | exact absurd rfl (h2 _) | (cases B <;> rfl)

theorem bin_res (R : Rel w0 ρ H w) (E : ERel H.length ρ w.heap env a) {op : BinOp} {t : TypeId} {x y : Operand} (hx : okX x = true) (hy : okX y = true)
    (hs : (LO.bin op x y).step P T fl env H = some (v, H')) :
    Res w0 ρ H w v H' ((do eqGuard op t x y (a.eval x) (a.eval y); binOp op t (a.eval x) (a.eval y) : Sem Value).run P w) := by
  have hv := E.ev hx
  have hv2 := E.ev hy
  simp only [LO.step, Option.map_eq_some_iff, Prod.mk.injEq] at hs
  obtain ⟨u, hb, rfl, rfl⟩ := hs
  generalize a.eval x = X at hv ⊢
  generalize a.eval y = Y at hv2 ⊢
  generalize evO env x = X0 at hv hb
  generalize evO env y = Y0 at hv2 hb
  unfold binV at hb
  split at hb
  · rename_i k n k' n'
    obtain rfl := int_of hv
    obtain rfl := int_of hv2
    have hg : (eqGuard op t x y (.int k n) (.int k' n')).run P w = .ok () w := eqGuard_int op t x y _ _ (by simp) (by simp)
    split at hb
    · rename_i hsh
      refine Res.same R (v' := u) ?_ ?_
      · rw [Sem.run_bind, hg]
        exact binShift_run op k k' n n' u hb hsh t
      · unfold binShift at hb
        split at hb
        · simp at hb
        · split at hb <;> first | (simp at hb; done) | (obtain rfl := Option.some.inj hb; exact .int _ _)
    · rename_i hsh
      split at hb
      · rename_i hk
        subst hk
        refine Res.same R (v' := u) ?_ ?_
        · rw [Sem.run_bind, hg]
          exact binInt_run op k n n' u hb (by simpa using hsh) t
        · unfold binInt at hb
          split at hb <;> first | (simp at hb; done) | (obtain rfl := Option.some.inj hb; first | exact .int _ _ | exact .bool _) | (split at hb <;> first | (simp at hb; done) | (obtain rfl := Option.some.inj hb; exact .int _ _))
      · simp at hb
  · rename_i s s'
    cases hv
    cases hv2
    have hg : (eqGuard op t x y (.string s) (.string s')).run P w = .ok () w := eqGuard_int op t x y _ _ (by simp) (by simp)
    refine Res.same R (v' := u) ?_ ?_
    · rw [Sem.run_bind, hg]
      exact binStr_run op s s' u hb t
    · unfold binStr at hb
      split at hb
      · split at hb
        · obtain rfl := Option.some.inj hb; exact .string _
        · simp at hb
      · obtain rfl := Option.some.inj hb; exact .bool _
      · obtain rfl := Option.some.inj hb; exact .bool _
      · simp at hb
  · simp at hb

theorem binB_res (R : Rel w0 ρ H w) (E : ERel H.length ρ w.heap env a) {op : BinOp} {t : TypeId} {x y : Operand} (hx : okX x = true) (hy : okX y = true) (hu : P.underlying t = some .bool)
    (hs : (LO.binB op x y).step P T fl env H = some (v, H')) :
    Res w0 ρ H w v H' ((do eqGuard op t x y (a.eval x) (a.eval y); binOp op t (a.eval x) (a.eval y) : Sem Value).run P w) := by
  have hv := E.ev hx
  have hv2 := E.ev hy
  simp only [LO.step, Option.map_eq_some_iff, Prod.mk.injEq] at hs
  obtain ⟨u, hb, rfl, rfl⟩ := hs
  generalize a.eval x = X at hv ⊢
  generalize a.eval y = Y at hv2 ⊢
  generalize evO env x = X0 at hv hb
  generalize evO env y = Y0 at hv2 hb
  unfold Lev.binB at hb
  split at hb
  · rename_i b b'
    cases hv
    cases hv2
    have hg : (eqGuard op t x y (.bool b) (.bool b')).run P w = .ok () w := eqGuard_int op t x y _ _ (by simp) (by simp)
    split at hb
    · obtain rfl := Option.some.inj hb
      refine Res.same R ?_ (.bool _)
      rw [Sem.run_bind, hg]
      simp [binOp, run_equal_bool hu]
    · obtain rfl := Option.some.inj hb
      refine Res.same R ?_ (.bool _)
      rw [Sem.run_bind, hg]
      simp [binOp, run_equal_bool hu]
    · simp at hb
  · simp at hb

theorem un_res (R : Rel w0 ρ H w) (E : ERel H.length ρ w.heap env a) {op : UnOp} {x : Operand} (hx : okX x = true) (hs : (LO.un op x).step P T fl env H = some (v, H')) :
    Res w0 ρ H w v H' ((Op.unary op (a.eval x)).run P w) := by
  have hv := E.ev hx
  simp only [LO.step, Option.map_eq_some_iff, Prod.mk.injEq] at hs
  obtain ⟨u, hb, rfl, rfl⟩ := hs
  generalize a.eval x = X at hv ⊢
  generalize evO env x = X0 at hv hb
  unfold unV at hb
  split at hb
  · obtain rfl := Option.some.inj hb
    obtain rfl := int_of hv
    exact Res.same R (by simp [Op.unary, Op.intArith]) (.int _ _)
  · obtain rfl := Option.some.inj hb
    obtain rfl := int_of hv
    exact Res.same R (by simp [Op.unary, Op.intBits]) (.int _ _)
  · obtain rfl := Option.some.inj hb
    cases hv
    exact Res.same R (by simp [Op.unary]) (.bool _)
  · simp at hb

end
end Go.Lev


set_option linter.unusedVariables false
set_option linter.unusedSimpArgs false
namespace Go.Lev
open Go Go.RowKit

theorem eqAll_append (xs ys : List Value) : ∀ (l m : List (Nat × Nat)), eqAll xs ys (l ++ m) = match eqAll xs ys l, eqAll xs ys m with
    | some a, some b => some (a && b)
    | _, _ => none
  | [], m => by
    simp only [List.nil_append, eqAll]
    cases eqAll xs ys m <;> simp
  | o :: l, m => by
    simp only [List.cons_append, eqAll, eqAll_append xs ys l m]
    cases cmpAt xs ys o <;> cases eqAll xs ys l <;> cases eqAll xs ys m <;> simp [Bool.and_assoc]

theorem eqAll_sub (xs ys : Array Value) (o m : Nat) : ∀ (l : List (Nat × Nat)), l.all (fun p => p.1 < m) = true → eqAll (xs.extract o (o + m)).toList (ys.extract o (o + m)).toList l = eqAll xs.toList ys.toList (l.map fun p => (o + p.1, p.2))
  | [], _ => rfl
  | i :: l, h => by
    simp only [List.all_cons, Bool.and_eq_true, decide_eq_true_eq] at h
    have e : ∀ zs : Array Value, (zs.extract o (o + m)).toList[i.1]? = zs.toList[o + i.1]? := fun zs => by
      rw [Array.getElem?_toList, Array.getElem?_toList, Array.getElem?_extract]
      by_cases hs : i.1 < min (o + m) zs.size - o
      · rw [if_pos hs]
      · rw [if_neg hs, Array.getElem?_eq_none (by omega)]
    simp only [eqAll, List.map_cons, cmpAt, e, eqAll_sub xs ys o m l h.2]

theorem run_eqFields {P : Program} (w : World) (D : Nat) (xs ys : Array Value) (rec : TypeId → Option (List (Nat × Nat)))
    (hrec : ∀ t l, rec t = some l → (tyAgg P t = some false → ∃ kc, l = [(0, kc)] ∧ ∀ a b r, (cellEq kc a b = some r → (Op.equalIn D t a b).run P w = .ok r w)) ∧
      (tyAgg P t = some true → ∀ (us vs : Array Value) r, eqAll us.toList vs.toList l = some r → (Op.equalIn D t (.agg us) (.agg vs)).run P w = .ok r w)) :
    ∀ (fs : List Field) (l : List (Nat × Nat)) (r : Bool), leavesF P rec fs = some l → eqAll xs.toList ys.toList l = some r → (Op.eqFields D xs ys fs).run P w = .ok r w
  | [], l, r, hl, he => by
    simp only [leavesF, Option.some.injEq] at hl
    subst hl
    simp only [eqAll, Option.some.injEq] at he
    subst he
    rfl
  | f :: fs, l, r, hl, he => by
    simp only [leavesF] at hl
    split at hl
    · simp at hl
    · rename_i hname
      split at hl
      · rename_i m ag lf lr hm hag hlf hlr
        split at hl
        · rename_i hall
          obtain rfl := Option.some.inj hl
          rw [eqAll_append] at he
          split at he
          · rename_i r1 r2 h1 h2
            simp only [Option.some.injEq] at he
            subst he
            have hpart := fun zs : Array Value => run_part (cs := zs) (off := f.offset) hag hm w
            have hgo : ∃ A B, (part f.type xs f.offset).run P w = .ok A w ∧ (part f.type ys f.offset).run P w = .ok B w ∧ (Op.equalIn D f.type A B).run P w = .ok r1 w := by
              cases ag with
              | true =>
                refine ⟨_, _, by rw [hpart]; rfl, by rw [hpart]; rfl, ?_⟩
                refine (hrec f.type lf hlf).2 hag _ _ r1 ?_
                rw [eqAll_sub _ _ _ _ _ hall]
                exact h1
              | false =>
                obtain ⟨kc, hl0, hceq⟩ := (hrec f.type lf hlf).1 hag
                subst hl0
                simp only [List.map_cons, List.map_nil, Nat.add_zero, eqAll, cmpAt] at h1
                split at h1
                · rename_i a b hab hb
                  simp only [Option.some.injEq] at hb
                  subst hb
                  split at hab
                  · rename_i A B hA hB
                    simp only [Bool.and_true, Option.some.injEq] at h1
                    subst h1
                    refine ⟨A, B, ?_, ?_, hceq A B a hab⟩
                    · rw [hpart]
                      simp only [Array.getElem?_toList] at hA
                      simp [hA]
                    · rw [hpart]
                      simp only [Array.getElem?_toList] at hB
                      simp [hB]
                  · simp at hab
                · simp at h1
            obtain ⟨A, B, hA, hB, hE⟩ := hgo
            have ih := run_eqFields w D xs ys rec hrec fs lr r2 hlr h2
            simp only [Op.eqFields]
            rw [if_pos hname]
            simp only [Sem.run_bind, hA, hB, hE, Result.andThen_ok]
            cases r1
            · simp
            · simpa using ih
          · simp at he
        · simp at hl
      · simp at hl

theorem run_leaves {P : Program} (w : World) : ∀ (d D : Nat) (t : TypeId) (l : List (Nat × Nat)), d ≤ D → leaves P d t = some l →
    (tyAgg P t = some false → ∃ kc, l = [(0, kc)] ∧ ∀ a b r, (cellEq kc a b = some r → (Op.equalIn D t a b).run P w = .ok r w)) ∧
    (tyAgg P t = some true → ∀ (us vs : Array Value) r, eqAll us.toList vs.toList l = some r → (Op.equalIn D t (.agg us) (.agg vs)).run P w = .ok r w)
  | 0, D, t, l, hd, hl => by simp [leaves] at hl
  | d + 1, 0, t, l, hd, hl => by omega
  | d + 1, D + 1, t, l, hd, hl => by
    have ih := fun t l (h : leaves P d t = some l) => run_leaves w d D t l (by omega) h
    simp only [leaves] at hl
    split at hl
    · rename_i k hu
      obtain rfl := Option.some.inj hl
      refine ⟨fun _ => ⟨0, rfl, fun a b r h => ?_⟩, fun h => by simp [tyAgg, hu] at h⟩
      cases a <;> cases b <;> first | (simp [cellEq] at h; done) | skip
      simp only [cellEq] at h
      split at h
      · rename_i hk
        subst hk
        obtain rfl := Option.some.inj h
        exact run_equalIn_int w D t _ _ _ _ hu
      · simp at h
    · rename_i hu
      obtain rfl := Option.some.inj hl
      refine ⟨fun _ => ⟨1, rfl, fun a b r h => ?_⟩, fun h => by simp [tyAgg, hu] at h⟩
      cases a <;> cases b <;> first | (simp [cellEq] at h; done) | skip
      obtain rfl := Option.some.inj h
      exact run_equalIn_bool w D t _ _ hu
    · rename_i hu
      obtain rfl := Option.some.inj hl
      refine ⟨fun _ => ⟨2, rfl, fun a b r h => ?_⟩, fun h => by simp [tyAgg, hu] at h⟩
      cases a <;> cases b <;> first | (simp [cellEq] at h; done) | skip
      obtain rfl := Option.some.inj h
      exact run_equalIn_string w D t _ _ hu
    · rename_i fs hu
      split at hl
      · simp at hl
      · rename_i hp
        refine ⟨fun h => by simp [tyAgg, hu] at h, fun _ us vs r he => ?_⟩
        have hfo : P.fieldsOf t = fs := by simp [Program.fieldsOf, hu]
        rw [run_equalIn_struct w D t us vs (by rw [hfo]; exact hu) (by simpa using hp), hfo]
        exact run_eqFields w D us vs _ ih fs.toList l r hl he
    · rename_i n e hu
      split at hl
      · rename_i m ag lf hm hag hlf
        split at hl
        · rename_i hall
          obtain rfl := Option.some.inj hl
          refine ⟨fun h => by simp [tyAgg, hu] at h, fun _ us vs r he => ?_⟩
          have q := ih e lf hlf
          have hgo : ∀ (i : Nat) (r1 : Bool), eqAll us.toList vs.toList (lf.map fun p => (i * m + p.1, p.2)) = some r1 → ∃ A B, (part e us (i * m)).run P w = .ok A w ∧ (part e vs (i * m)).run P w = .ok B w ∧ (Op.equalIn D e A B).run P w = .ok r1 w := by
            intro i r1 e1
            have hpart := fun zs : Array Value => run_part (cs := zs) (off := i * m) hag hm w
            cases ag with
            | true =>
              refine ⟨_, _, by rw [hpart]; rfl, by rw [hpart]; rfl, ?_⟩
              refine q.2 hag _ _ r1 ?_
              rw [eqAll_sub _ _ _ _ _ hall]
              exact e1
            | false =>
              obtain ⟨kc, hl0, hc⟩ := q.1 hag
              subst hl0
              simp only [List.map_cons, List.map_nil, Nat.add_zero, eqAll, cmpAt] at e1
              split at e1
              · rename_i a b hab hb
                simp only [Option.some.injEq] at hb
                subst hb
                split at hab
                · rename_i A B hA hB
                  simp only [Bool.and_true, Option.some.injEq] at e1
                  subst e1
                  refine ⟨A, B, ?_, ?_, hc A B a hab⟩
                  · rw [hpart]
                    simp only [Array.getElem?_toList] at hA
                    simp [hA]
                  · rw [hpart]
                    simp only [Array.getElem?_toList] at hB
                    simp [hB]
                · simp at hab
              · simp at e1
          simp only [Op.equalIn, Sem.run_bind, run_underlying hu, Result.andThen_ok, run_sizeOf hm]
          rw [Std.Legacy.Range.forIn_eq_forIn_range']
          rw [List.range_eq_range'] at he
          have hrg : List.range' [:n].start [:n].size [:n].step = List.range' 0 n := by simp [Std.Legacy.Range.size]
          rw [hrg]
          generalize List.range' 0 n = is at he ⊢
          clear hrg hl ih q hu hlf
          induction is generalizing r with
          | nil =>
            simp only [List.flatMap_nil, eqAll, Option.some.injEq] at he
            subst he
            rfl
          | cons i is ihs =>
            rw [List.flatMap_cons, eqAll_append] at he
            split at he
            · rename_i r1 r2 e1 e2
              simp only [Option.some.injEq] at he
              subst he
              obtain ⟨A, B, hA, hB, hE⟩ := hgo i r1 e1
              have ih2 := ihs r2 e2
              simp only [List.forIn_cons, Sem.run_bind, hA, hB, hE, Result.andThen_ok]
              cases r1
              · simp
              · simp only [Bool.not_true, Bool.false_eq_true, if_false, Sem.run_pure, Result.andThen_ok, Bool.true_and]
                exact ih2
            · simp at he
        · simp at hl
      · simp at hl
    · simp at hl

section
variable {P : Program} {T : Tab} {fl : Nat} {env : Nat → Value} {H H' : Heap} {w0 w : World} {ρ : Nat → RB} {a : Act} {v : Value}

theorem eqAll_rel {N : Nat} {ρ : Nat → RB} {h : Array Obj} {xs xs' ys ys' : Array Value} (hx : VRel N ρ h (.agg xs) (.agg xs')) (hy : VRel N ρ h (.agg ys) (.agg ys')) : ∀ (l : List (Nat × Nat)) (r : Bool), eqAll xs.toList ys.toList l = some r → eqAll xs'.toList ys'.toList l = some r
  | [], r, he => he
  | o :: l, r, he => by
    cases hx with
    | agg _ _ hs hc =>
    cases hy with
    | agg _ _ hs2 hc2 =>
    simp only [eqAll] at he ⊢
    split at he
    · rename_i p q h1 h2
      have ih := eqAll_rel (.agg xs xs' hs hc) (.agg ys ys' hs2 hc2) l q h2
      have e1 : cmpAt xs'.toList ys'.toList o = some p := by
        unfold cmpAt at h1 ⊢
        split at h1
        · rename_i A B hA hB
          have hA' := hA
          have hB' := hB
          simp only [Array.getElem?_toList] at hA' hB'
          have i1 : o.1 < xs'.size := by have := (Array.getElem?_eq_some_iff.1 hA').1; omega
          have i2 : o.1 < ys'.size := by have := (Array.getElem?_eq_some_iff.1 hB').1; omega
          have r1 := hc _ _ _ hA' (Array.getElem?_eq_getElem i1)
          have r2 := hc2 _ _ _ hB' (Array.getElem?_eq_getElem i2)
          have s1 : isSc0 A = true ∧ isSc0 B = true := by
            unfold cellEq at h1
            split at h1 <;> first | exact ⟨rfl, rfl⟩ | simp at h1
          have t1 := r1.sc0 s1.1
          have t2 := r2.sc0 s1.2
          simp only [Array.getElem?_toList, Array.getElem?_eq_getElem i1, Array.getElem?_eq_getElem i2, t1, t2]
          exact h1
        · simp at h1
      rw [e1, ih]
      exact he
    · simp at he

theorem eqA_res (R : Rel w0 ρ H w) (E : ERel H.length ρ w.heap env a) {op : BinOp} {t : TypeId} {x y : Operand} {offs : List (Nat × Nat)} (hx : okX x = true) (hy : okX y = true) (hl : leaves P 20 t = some offs) (hag : tyAgg P t = some true) (hg : P.eqGuardType P.depth t = false) (hop : op = .eql ∨ op = .neq)
    (hs : (LO.eqA offs (op == .neq) x y).step P T fl env H = some (v, H')) :
    Res w0 ρ H w v H' ((do eqGuard op t x y (a.eval x) (a.eval y); binOp op t (a.eval x) (a.eval y) : Sem Value).run P w) := by
  have hv := E.ev hx
  have hv2 := E.ev hy
  simp only [LO.step] at hs
  split at hs
  · rename_i xs ys h1 h2
    simp only [Option.map_eq_some_iff, Prod.mk.injEq] at hs
    obtain ⟨b, hb, rfl, rfl⟩ := hs
    rw [h1] at hv
    rw [h2] at hv2
    generalize a.eval x = X at hv ⊢
    generalize a.eval y = Y at hv2 ⊢
    have hX : ∃ xs', X = .agg xs' := by cases hv; exact ⟨_, rfl⟩
    have hY : ∃ ys', Y = .agg ys' := by cases hv2; exact ⟨_, rfl⟩
    obtain ⟨xs', rfl⟩ := hX
    obtain ⟨ys', rfl⟩ := hY
    have he := eqAll_rel hv hv2 offs b hb
    have hq := (run_leaves (P := P) w 20 10000 t offs (by omega) hl).2 hag xs' ys' b he
    rcases hop with rfl | rfl
    · refine Res.same R ?_ (.bool _)
      rw [Sem.run_bind, run_eqGuard_agg w _ _ _ _ _ _ hg, Result.andThen_ok, run_eql_struct, hq]
      simp
    · refine Res.same R ?_ (.bool _)
      rw [Sem.run_bind, run_eqGuard_agg w _ _ _ _ _ _ hg, Result.andThen_ok, run_neq_struct, hq]
      simp
  · simp at hs

theorem bytesOf_get : ∀ (l : List Value) (bs : List UInt8), bytesOf l = some bs → bs.length = l.length ∧ l.all isSc0 = true ∧ ∀ i, i < l.length → ∃ n : Int, l[i]? = some (.int .u8 n) ∧ bs[i]? = some (UInt8.ofNat n.toNat)
  | [], bs, h => by simp only [bytesOf, Option.some.injEq] at h; subst h; exact ⟨rfl, rfl, fun i h => by simp at h⟩
  | v :: l, bs, h => by
    simp only [bytesOf] at h
    split at h
    · rename_i b r hb hr
      obtain rfl := Option.some.inj h
      obtain ⟨q1, q2, q3⟩ := bytesOf_get l r hr
      have hv : ∃ n, v = .int .u8 n ∧ b = UInt8.ofNat n.toNat := by
        unfold byteOf? at hb
        split at hb
        · exact ⟨_, rfl, (Option.some.inj hb).symm⟩
        · simp at hb
      obtain ⟨n, rfl, rfl⟩ := hv
      refine ⟨by simp [q1], by simp [isSc0, q2], fun i hi => ?_⟩
      cases i with
      | zero => exact ⟨n, rfl, rfl⟩
      | succ i => exact q3 i (by simpa using hi)
    · simp at h

theorem b2s_res (R : Rel w0 ρ H w) (E : ERel H.length ρ w.heap env a) {s d e : TypeId} {x : Operand} (hx : okX x = true) (hu : P.underlying s = some (.slice e)) (he : P.underlying e = some (.int .u8)) (hd : P.underlying d = some .string)
    (hs : (LO.b2s x).step P T fl env H = some (v, H')) : Res w0 ρ H w v H' ((convert s d (a.eval x)).run P w) := by
  have hv := E.ev hx
  simp only [LO.step] at hs
  generalize a.eval x = X at hv ⊢
  split at hs
  · rename_i n c hev
    simp only [Option.some.injEq, Prod.mk.injEq] at hs
    obtain ⟨rfl, rfl⟩ := hs
    rw [hev] at hv
    cases hv
    exact Res.same R (run_convert_bytes_nil w s e hu he 0 0 d hd) (.string _)
  · rename_i ad n c hev
    split at hs
    · rename_i cs hcs
      simp only [Option.map_eq_some_iff, Prod.mk.injEq] at hs
      obtain ⟨bs, hbs, rfl, rfl⟩ := hs
      rw [hev] at hv
      obtain ⟨b, hb, hsp, hle, rfl⟩ := rdN_some hcs
      obtain ⟨q1, q2, q3⟩ := bytesOf_get _ _ hbs
      cases hv with
      | slice id off g _ _ c' ra hid hg hn ha =>
        simp only at hb hle q1 q2 q3
        simp only [Option.some.injEq] at hsp
        have hgen : g = (ρ id).gen := by rw [(R.box id b hb).gen]; exact hsp
        obtain ⟨l', k1, k2, k3⟩ := R.cellsAt hb off n hle
        have hlen : ((b.cells.drop off).take n).length = n := by simp; omega
        have hcells : ∀ i, i < n → l'[i]? = ((b.cells.drop off).take n)[i]? := fun i hi => by
          have i1 : i < ((b.cells.drop off).take n).length := by omega
          have i2 : i < l'.length := by omega
          have r1 := k3.2 i _ _ (List.getElem?_eq_getElem i1) (List.getElem?_eq_getElem i2)
          rw [List.getElem?_eq_getElem i1, List.getElem?_eq_getElem i2]
          rw [r1.sc0 (List.all_eq_true.1 q2 _ (List.getElem_mem i1))]
        obtain ⟨xs, hxs⟩ : ∃ xs : List Int, xs = (List.range n).map fun i => match ((b.cells.drop off).take n)[i]? with | some (.int _ m) => m | _ => 0 := ⟨_, rfl⟩
        have hxl : xs.length = n := by simp [hxs]
        have hxg : ∀ i, i < n → ∃ m : Int, xs.getD i 0 = m ∧ l'[i]? = some (.int .u8 m) ∧ bs[i]? = some (UInt8.ofNat m.toNat) := fun i hi => by
          obtain ⟨m, m1, m2⟩ := q3 i (by omega)
          refine ⟨m, ?_, by rw [hcells i hi]; exact m1, m2⟩
          rw [hxs, List.getD_eq_getElem?_getD, List.getElem?_map, List.getElem?_range hi]
          simp only [Option.map_some, m1, Option.getD_some]
        have hbytes : (⟨bs.toArray⟩ : ByteArray) = strOfNums xs := by
          unfold strOfNums
          congr 2
          apply List.ext_getElem?
          intro i
          by_cases hi : i < n
          · obtain ⟨m, m1, m2, m3⟩ := hxg i hi
            rw [m3, List.getElem?_map]
            have : xs[i]? = some m := by
              rw [List.getD_eq_getElem?_getD, List.getElem?_eq_getElem (by omega)] at m1
              rw [List.getElem?_eq_getElem (by omega)]
              simpa using m1
            rw [this]
            rfl
          · rw [List.getElem?_eq_none (by omega), List.getElem?_eq_none (by simp; omega)]
        rw [hbytes]
        by_cases hc : 0 < c'
        · obtain rfl := (ha hgen).1 hc
          exact Res.same R (run_convert_bytes_arg w s e hu he _ _ n c' xs hxl (fun i hi => by
            obtain ⟨m, m1, m2, _⟩ := hxg i hi
            rw [m1]
            exact k2 i _ m2) d hd) (.string _)
        · have hn0 : n = 0 := by omega
          subst hn0
          have hx0 : xs = [] := List.eq_nil_of_length_eq_zero hxl
          subst hx0
          obtain ⟨rb, ro, rs⟩ := ra
          refine Res.same R ?_ (.string _)
          rw [run_convert_bytes_string w s d e _ 0 c' hu he hd, run_bytesToString w _ 0 c' [] (by simp [loadCells, loadCellsFrom])]
          simp [strOfNums, ByteArray.empty, ByteArray.emptyWithCapacity]
          rfl
    · simp at hs
  · simp at hs
end
end Go.Lev


set_option linter.unusedVariables false
set_option linter.unusedSimpArgs false
namespace Go.Lev
open Go Go.RowKit

theorem pureRun_run {P : Program} {α : Type} (s : Sem α) (r : α) (h : pureRun P s = some r) (w : World) : s.run P w = .ok r w := by
  induction s with
  | pure b =>
    simp only [pureRun, Option.some.injEq] at h
    rw [h]
    rfl
  | program k ih =>
    simp only [pureRun] at h
    exact ih P h
  | _ => simp [pureRun] at h

section
variable {P : Program} {T : Tab} {fl : Nat} {env : Nat → Value} {H H' : Heap} {w0 w : World} {ρ : Nat → RB} {a : Act} {v : Value}

theorem equal_unfold (t : TypeId) (x y : Value) : Op.equal t x y = Op.equalIn (9999 + 1) t x y := rfl

theorem run_nil_eq {t : TypeId} {y : Operand} (hn : nilTy P t y = true) {A A0 : Value} {b : Bool} (hA : isNilV A0 = some b) (hv : VRel H.length ρ w.heap A0 A) (hfit : nilFit P t A0 = true) :
    (Op.equal t A (a.eval y)).run P w = .ok b w := by
  unfold nilTy at hn
  rw [equal_unfold, Op.equalIn]
  split at hn
  all_goals first | (simp at hn; done) | skip
  all_goals
    rename_i e hu
    simp only [nilFit, nilK, hu] at hfit
    cases hv <;> first | (simp [isKind] at hfit; done) | (simp [isNilV] at hA; done) | (simp only [isNilV, Option.some.injEq] at hA; subst hA; simp [Act.eval, run_underlying hu]; done)

theorem isNil_res (R : Rel w0 ρ H w) (E : ERel H.length ρ w.heap env a) {op : BinOp} {t : TypeId} {x y : Operand} (hx : okX x = true) (hn : nilTy P t y = true) (hop : op = .eql ∨ op = .neq)
    (hs : (LO.isNil (nilK P t) (op == .neq) x).step P T fl env H = some (v, H')) :
    Res w0 ρ H w v H' ((do eqGuard op t x y (a.eval x) (a.eval y); binOp op t (a.eval x) (a.eval y) : Sem Value).run P w) := by
  have hv := E.ev hx
  simp only [LO.step] at hs
  split at hs
  · rename_i hfit
    simp only [Option.map_eq_some_iff, Prod.mk.injEq] at hs
    obtain ⟨b, hb, rfl, rfl⟩ := hs
    have hq := run_nil_eq (a := a) hn hb hv hfit
    have hy : ∃ c, y = .const c := by
      unfold nilTy at hn
      split at hn <;> first | exact ⟨_, rfl⟩ | simp at hn
    obtain ⟨c, rfl⟩ := hy
    have hg : (eqGuard op t x (.const c) (a.eval x) (a.eval (.const c))).run P w = .ok () w := by
      generalize a.eval x = X at hv ⊢
      generalize evO env x = X0 at hv hb
      cases hv <;> rcases hop with rfl | rfl <;> simp [isNilV] at hb <;> cases c <;> first | rfl | (cases x <;> rfl)
    have hb2 : ∀ (A B : Value), isNilV A = some b → (binOp .eql t A B = (do pure (.bool (← Op.equal t A B)) : Sem Value)) ∧ (binOp .neq t A B = (do pure (.bool (!(← Op.equal t A B))) : Sem Value)) := by
      intro A B hA
      cases A <;> cases B <;> first | exact ⟨rfl, rfl⟩ | simp [isNilV] at hA
    have hA : isNilV (a.eval x) = some b := by
      generalize a.eval x = X at hv ⊢
      generalize evO env x = X0 at hv hb
      cases hv <;> simp_all [isNilV]
    rcases hop with rfl | rfl
    · refine Res.same R ?_ (.bool _)
      rw [Sem.run_bind, hg, Result.andThen_ok, (hb2 _ _ hA).1]
      simp [hq]
    · refine Res.same R ?_ (.bool _)
      rw [Sem.run_bind, hg, Result.andThen_ok, (hb2 _ _ hA).2]
      simp [hq]
  · simp at hs

theorem conv_res (R : Rel w0 ρ H w) (E : ERel H.length ρ w.heap env a) {o : Oper} {s d : TypeId} {x : Operand} {lo : LO} (hx : okX x = true) (hc : cConv P o s d x = some lo) (hpr : lo ≠ .pr o) (hs : lo.step P T fl env H = some (v, H')) :
    Res w0 ρ H w v H' ((convert s d (a.eval x)).run P w) := by
  have hv := E.ev hx
  unfold cConv at hc
  split at hc
  · rename_i k0 k hu hu2
    obtain rfl := Option.some.inj hc
    simp only [LO.step] at hs
    split at hs
    · rename_i k1 n hev
      simp only [Option.some.injEq, Prod.mk.injEq] at hs
      obtain ⟨rfl, rfl⟩ := hs
      rw [hev] at hv
      rw [int_of hv]
      exact Res.same R (by simp [convert, run_underlying hu, run_underlying hu2, Conv.intToInt]) (.int _ _)
    · simp at hs
  · rename_i k0 k hu hu2
    obtain rfl := Option.some.inj hc
    simp only [LO.step] at hs
    split at hs
    · rename_i k1 n hev
      simp only [Option.some.injEq, Prod.mk.injEq] at hs
      obtain ⟨rfl, rfl⟩ := hs
      rw [hev] at hv
      rw [int_of hv]
      exact Res.same R (by simp [convert, run_underlying hu, run_underlying hu2, Conv.intToFloat]) (.float _ _)
    · simp at hs
  · rename_i hu hu2
    obtain rfl := Option.some.inj hc
    simp only [LO.step] at hs
    split at hs
    · rename_i s0 hev
      simp only [Option.some.injEq, Prod.mk.injEq] at hs
      obtain ⟨rfl, rfl⟩ := hs
      rw [hev] at hv
      generalize a.eval x = X at hv ⊢
      cases hv
      exact Res.same R (by simp [convert, run_underlying hu, run_underlying hu2]) (.string _)
    · simp at hs
  · obtain rfl := Option.some.inj hc
    exact absurd rfl hpr
  · rename_i e hu hd
    split at hc
    · rename_i he _
      obtain rfl := Option.some.inj hc
      exact b2s_res R E hx hu he hd hs
    · simp at hc
  · simp at hc

theorem mkI_res (R : Rel w0 ρ H w) (E : ERel H.length ρ w.heap env a) {t : TypeId} {x : Operand} {lo : LO} (hx : okX x = true) (hc : cMkI P t x = some lo) (hs : lo.step P T fl env H = some (v, H')) :
    Res w0 ρ H w v H' ((Instr.makeInterface t (a.eval x)).run P w) := by
  have hv := E.ev hx
  unfold cMkI at hc
  split at hc
  · simp at hc
  · rename_i d hni hu
    obtain rfl := Option.some.inj hc
    simp only [LO.step, Option.some.injEq, Prod.mk.injEq] at hs
    obtain ⟨rfl, rfl⟩ := hs
    refine Res.same R (v' := .iface t (a.eval x)) ?_ (.iface _ _ _ hv)
    unfold Instr.makeInterface
    rw [Sem.run_bind, run_underlying hu]
    simp only [Result.andThen_ok]
    cases d <;> first | rfl | exact absurd hu (hni _)
  · simp at hc

theorem mkf_res (R : Rel w0 ρ H w) (E : ERel H.length ρ w.heap env a) {f : FuncId} {fs cs : Array Operand} (h1 : ∀ x ∈ fs, okX x = true) (h2 : ∀ x ∈ cs, okX x = true) (hs : (LO.mkf f fs.toList cs.toList).step P T fl env H = some (v, H')) :
    Res w0 ρ H w v H' ((Instr.makeFunc (.func f) (fs.map a.eval) (cs.map a.eval)).run P w) := by
  simp only [LO.step, Option.some.injEq, Prod.mk.injEq] at hs
  obtain ⟨rfl, rfl⟩ := hs
  refine Res.same R (v' := .func (.func f) (fs.map a.eval) (cs.map a.eval)) rfl (.func _ _ _ _ _ (by simp) (fun i u u' hi hi' => ?_) (by simp) fun i u u' hi hi' => ?_)
  · simp only [List.getElem?_toArray, List.getElem?_map, Array.getElem?_toList, Option.map_eq_some_iff] at hi
    obtain ⟨x, hx, rfl⟩ := hi
    simp only [Array.getElem?_map, hx, Option.map_some, Option.some.injEq] at hi'
    subst hi'
    exact E.ev (h1 x (Array.mem_of_getElem? hx))
  · simp only [List.getElem?_toArray, List.getElem?_map, Array.getElem?_toList, Option.map_eq_some_iff] at hi
    obtain ⟨x, hx, rfl⟩ := hi
    simp only [Array.getElem?_map, hx, Option.map_some, Option.some.injEq] at hi'
    subst hi'
    exact E.ev (h2 x (Array.mem_of_getElem? hx))

theorem ext_res (R : Rel w0 ρ H w) (E : ERel H.length ρ w.heap env a) {x : Operand} {i : Nat} (hx : okX x = true) (hs : (LO.ext x i).step P T fl env H = some (v, H')) :
    Res w0 ρ H w v H' ((Instr.extract (a.eval x) i).run P w) := by
  have hv := E.ev hx
  simp only [LO.step] at hs
  split at hs
  · rename_i vs hev
    simp only [Option.map_eq_some_iff, Prod.mk.injEq] at hs
    obtain ⟨u, hu, rfl, rfl⟩ := hs
    rw [hev] at hv
    generalize a.eval x = X at hv ⊢
    cases hv with
    | tuple _ cs' hsz hcc =>
      have hi : i < cs'.size := by have := (Array.getElem?_eq_some_iff.1 hu).1; omega
      exact Res.same R (v' := cs'[i]) (by simp [Instr.extract, hi]) (hcc _ _ _ hu (Array.getElem?_eq_getElem hi))
  · simp at hs

theorem mk_res (R : Rel w0 ρ H w) (E : ERel H.length ρ w.heap env a) {t : TypeId} {x y : Operand} {lo : LO} (hx : okX x = true) (hy : okX y = true) (hc : cMk P t x y = some lo) (hs : lo.step P T fl env H = some (v, H')) :
    Res w0 ρ H w v H' ((Instr.makeSlice t (a.eval x) (a.eval y)).run P w) := by
  have hv := E.ev hx
  have hv2 := E.ev hy
  unfold cMk at hc
  split at hc
  · rename_i e hu
    split at hc
    · rename_i i hi
      split at hc
      · rename_i z hz
        split at hc
        · rename_i hcc
          obtain ⟨hall, hzs⟩ := hcc
          obtain rfl := Option.some.inj hc
          simp only [LO.step] at hs
          split at hs
          · rename_i n c hev hev2
            split at hs
            · rename_i hcond
              obtain ⟨rfl, h0, hb, hlim, hesz, hzl⟩ := hcond
              simp only [Option.some.injEq, Prod.mk.injEq] at hs
              obtain ⟨rfl, rfl⟩ := hs
              rw [hev] at hv
              rw [hev2] at hv2
              rw [int_of hv, int_of hv2]
              obtain ⟨m, rfl⟩ := Int.eq_ofNat_of_zero_le h0
              have hw : IntKind.i64.wrap (m : Int) = m := by
                have hb1 : IntKind.i64.bits = 64 := rfl
                have hb2 : IntKind.i64.signed = true := rfl
                unfold IntKind.wrap
                simp only [hb1, hb2, Bool.true_and]
                have : ((m : Int) % 2 ^ 64) = m := Int.emod_eq_of_lt (by omega) (by omega)
                rw [this]
                split
                · rename_i hq
                  simp at hq
                  omega
                · rfl
              have hz0 : 0 < z.cells.size := by omega
              have hl : LRel H.length ρ w.heap (zeroRow z.cells.toList (m * i.size)) ((Array.range (m * i.size)).map (z.cells[· % z.cells.size]!)).toList := by
                rw [zeroRow_eq _ _ hz0]
                exact .ofSc0 (zeroRow_sc _ _ hall (by simpa using hz0))
              have hcells : ((List.range ((m : Int).toNat * i.size)).map fun j => z.cells.toList.getD (j % i.size) undef) = zeroRow z.cells.toList (m * i.size) := by
                unfold zeroRow
                simp only [Int.toNat_natCast, Array.length_toList, hzs]
              rw [hcells]
              obtain ⟨ρ', k1, k2, k3⟩ := R.push { cells := zeroRow z.cells.toList (m * i.size), gen := 0, row := i.size } rfl rfl ((Array.range (m * i.size)).map (z.cells[· % z.cells.size]!)) e (fun j u hj => by
                obtain ⟨u', q1, q2⟩ := hl.get hj
                exact ⟨u', by rw [← Array.getElem?_toList]; exact q1, q2⟩)
              refine ⟨.slice (some ⟨w.heap.size, 0, none⟩) m m, _, ρ', ?_, ?_, k2, k3⟩
              · have hb' : ¬ ((i.bytes : Int) * (m : Int) > 281474976710656) := by
                  rw [Int.mul_comm]
                  omega
                have hzv : tyZero P e = some z := by simp [tyZero, hi, hz]
                have hsv : tySize P e = some i.size := by simp [tySize, hi]
                unfold Instr.makeSlice
                simp only [Sem.run_bind, run_underlying hu, Result.andThen_ok, asInt, asIntOf, Sem.run_pure, typeInfo, run_program, hi, hw]
                have hc1 : ((decide ((m : Int) < 0) || decide ((i.bytes : Int) * (m : Int) > 2 ^ 48)) || decide ((m : Int) < 0) || decide ((m : Int) > (m : Int))) = false := by
                  simp
                  omega
                simp only [hc1, Bool.false_eq_true, if_false, Sem.run_bind, run_askRoom, Result.andThen_ok, run_sizeOf hsv, Int.toNat_natCast]
                by_cases hn0 : m * i.size = 0
                · have e0 : ((Array.range (m * i.size)).map (z.cells[· % z.cells.size]!)) = ((Array.range (m * i.size)).map ((#[] : Array Value)[· % (#[] : Array Value).size]!)) := by rw [hn0]; simp
                  rw [e0]
                  simp [hn0, newRow]
                · simp [hn0, run_zeroValue hzv, newRow]
              · simp only [Int.toNat_natCast]
                refine .slice _ _ _ _ _ _ _ (by simp) (by omega) (Nat.le_refl _) fun _ => ⟨fun _ => by rw [k1], fun _ _ _ => ?_⟩
                rw [k1]
                simp
            · simp at hs
          · simp at hs
        · simp at hc
      · simp at hc
    · simp at hc
  · simp at hc

end
end Go.Lev

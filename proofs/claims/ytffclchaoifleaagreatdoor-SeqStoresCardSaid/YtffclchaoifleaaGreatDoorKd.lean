/- A part of the proof: see the last text of this claim. -/
import Derived.Test.YtffclchaoifleaaGreatDoorTz
set_option linter.unusedVariables false
set_option linter.unusedSimpArgs false
set_option linter.constructorNameAsVariable false
namespace Go.Lev.Seat
open Go Go.Lev
set_option maxRecDepth 100000
def and64 (a b : Int) : Int := IntKind.u64.wrap (BitVec.ofInt IntKind.u64.bits a &&& BitVec.ofInt IntKind.u64.bits b).toNat
def or64 (a b : Int) : Int := IntKind.u64.wrap (BitVec.ofInt IntKind.u64.bits a ||| BitVec.ofInt IntKind.u64.bits b).toNat
def shl8 (a : Int) : Int := IntKind.u64.wrap (a * 2 ^ (min (8 : Int).toNat IntKind.u64.bits))
def shr8 (a : Int) : Int := a.fdiv (2 ^ (min (8 : Int).toNat IntKind.u64.bits))
/-- n bytes of a number, put together again. -/
def ofB : Nat → Int → Int → Int
  | 0, _, x => x
  | n + 1, v, x => or64 (shl8 (ofB n (shr8 v) x)) (IntKind.u64.wrap (IntKind.u8.wrap v))
def fst (r : Option (Value × Heap)) : Option Value := r.map (·.1)
def prog4 : List Value := [.string ⟨#[115, 98, 32, 120, 49, 44, 32, 48, 40, 120, 50, 41, 10, 108, 98, 117, 32, 120, 51, 44, 32, 48, 40, 120, 50, 41, 10, 104, 97, 108, 116]⟩, .string ⟨#[115, 104, 32, 120, 49, 44, 32, 48, 40, 120, 50, 41, 10, 108, 104, 117, 32, 120, 51, 44, 32, 48, 40, 120, 50, 41, 10, 104, 97, 108, 116]⟩, .string ⟨#[115, 119, 32, 120, 49, 44, 32, 48, 40, 120, 50, 41, 10, 108, 119, 117, 32, 120, 51, 44, 32, 48, 40, 120, 50, 41, 10, 104, 97, 108, 116]⟩, .string ⟨#[115, 100, 32, 120, 49, 44, 32, 48, 40, 120, 50, 41, 10, 108, 100, 32, 120, 51, 44, 32, 48, 40, 120, 50, 41, 10, 104, 97, 108, 116]⟩]
def prog : Box := { cells := prog4, gen := 0, row := 1 }
def hartL (pc v a x c : Int) : List Value := [.int .u64 pc, .int .u64 0, .int .u64 v, .int .u64 a, .int .u64 x, .int .u64 0, .int .u64 0, .int .u64 0, .int .u64 0, .int .u64 0, .int .u64 0, .int .u64 0, .int .u64 0, .int .u64 0, .int .u64 0, .int .u64 0, .int .u64 0, .int .u64 0, .int .u64 0, .int .u64 0, .int .u64 0, .int .u64 0, .int .u64 0, .int .u64 0, .int .u64 0, .int .u64 0, .int .u64 0, .int .u64 0, .int .u64 0, .int .u64 0, .int .u64 0, .int .u64 0, .int .u64 0, .int .i64 c]
def hb (v a : Int) : Box := { cells := hartL 0 v a 0 0 }
def img0 : Box := { cells := [.int .u8 35, .int .u8 0, .int .u8 17, .int .u8 0, .int .u8 131, .int .u8 65, .int .u8 1, .int .u8 0, .int .u8 115, .int .u8 0, .int .u8 16, .int .u8 0, .int .u8 0, .int .u8 0, .int .u8 0, .int .u8 0, .int .u8 0, .int .u8 0, .int .u8 0, .int .u8 0, .int .u8 0, .int .u8 0, .int .u8 0, .int .u8 0, .int .u8 0, .int .u8 0, .int .u8 0, .int .u8 0, .int .u8 0, .int .u8 0, .int .u8 0, .int .u8 0, .int .u8 0, .int .u8 0, .int .u8 0, .int .u8 0, .int .u8 0, .int .u8 0, .int .u8 0, .int .u8 0, .int .u8 0, .int .u8 0, .int .u8 0, .int .u8 0, .int .u8 0, .int .u8 0, .int .u8 0, .int .u8 0, .int .u8 0, .int .u8 0, .int .u8 0, .int .u8 0, .int .u8 0, .int .u8 0, .int .u8 0, .int .u8 0, .int .u8 0, .int .u8 0, .int .u8 0, .int .u8 0, .int .u8 0, .int .u8 0, .int .u8 0, .int .u8 0], gen := 0, row := 1 }
def img1 : Box := { cells := [.int .u8 35, .int .u8 16, .int .u8 17, .int .u8 0, .int .u8 131, .int .u8 81, .int .u8 1, .int .u8 0, .int .u8 115, .int .u8 0, .int .u8 16, .int .u8 0, .int .u8 0, .int .u8 0, .int .u8 0, .int .u8 0, .int .u8 0, .int .u8 0, .int .u8 0, .int .u8 0, .int .u8 0, .int .u8 0, .int .u8 0, .int .u8 0, .int .u8 0, .int .u8 0, .int .u8 0, .int .u8 0, .int .u8 0, .int .u8 0, .int .u8 0, .int .u8 0, .int .u8 0, .int .u8 0, .int .u8 0, .int .u8 0, .int .u8 0, .int .u8 0, .int .u8 0, .int .u8 0, .int .u8 0, .int .u8 0, .int .u8 0, .int .u8 0, .int .u8 0, .int .u8 0, .int .u8 0, .int .u8 0, .int .u8 0, .int .u8 0, .int .u8 0, .int .u8 0, .int .u8 0, .int .u8 0, .int .u8 0, .int .u8 0, .int .u8 0, .int .u8 0, .int .u8 0, .int .u8 0, .int .u8 0, .int .u8 0, .int .u8 0, .int .u8 0], gen := 0, row := 1 }
def img2 : Box := { cells := [.int .u8 35, .int .u8 32, .int .u8 17, .int .u8 0, .int .u8 131, .int .u8 97, .int .u8 1, .int .u8 0, .int .u8 115, .int .u8 0, .int .u8 16, .int .u8 0, .int .u8 0, .int .u8 0, .int .u8 0, .int .u8 0, .int .u8 0, .int .u8 0, .int .u8 0, .int .u8 0, .int .u8 0, .int .u8 0, .int .u8 0, .int .u8 0, .int .u8 0, .int .u8 0, .int .u8 0, .int .u8 0, .int .u8 0, .int .u8 0, .int .u8 0, .int .u8 0, .int .u8 0, .int .u8 0, .int .u8 0, .int .u8 0, .int .u8 0, .int .u8 0, .int .u8 0, .int .u8 0, .int .u8 0, .int .u8 0, .int .u8 0, .int .u8 0, .int .u8 0, .int .u8 0, .int .u8 0, .int .u8 0, .int .u8 0, .int .u8 0, .int .u8 0, .int .u8 0, .int .u8 0, .int .u8 0, .int .u8 0, .int .u8 0, .int .u8 0, .int .u8 0, .int .u8 0, .int .u8 0, .int .u8 0, .int .u8 0, .int .u8 0, .int .u8 0], gen := 0, row := 1 }
def img3 : Box := { cells := [.int .u8 35, .int .u8 48, .int .u8 17, .int .u8 0, .int .u8 131, .int .u8 49, .int .u8 1, .int .u8 0, .int .u8 115, .int .u8 0, .int .u8 16, .int .u8 0, .int .u8 0, .int .u8 0, .int .u8 0, .int .u8 0, .int .u8 0, .int .u8 0, .int .u8 0, .int .u8 0, .int .u8 0, .int .u8 0, .int .u8 0, .int .u8 0, .int .u8 0, .int .u8 0, .int .u8 0, .int .u8 0, .int .u8 0, .int .u8 0, .int .u8 0, .int .u8 0, .int .u8 0, .int .u8 0, .int .u8 0, .int .u8 0, .int .u8 0, .int .u8 0, .int .u8 0, .int .u8 0, .int .u8 0, .int .u8 0, .int .u8 0, .int .u8 0, .int .u8 0, .int .u8 0, .int .u8 0, .int .u8 0, .int .u8 0, .int .u8 0, .int .u8 0, .int .u8 0, .int .u8 0, .int .u8 0, .int .u8 0, .int .u8 0, .int .u8 0, .int .u8 0, .int .u8 0, .int .u8 0, .int .u8 0, .int .u8 0, .int .u8 0, .int .u8 0], gen := 0, row := 1 }
def x3_0 (v : Int) : Int := and64 (ofB 1 (and64 v 255) 0) 255
def x3_1 (v : Int) : Int := and64 (ofB 2 (and64 v 65535) 0) 65535
def x3_2 (v : Int) : Int := and64 (ofB 4 (and64 v 4294967295) 0) 4294967295
def x3_3 (v : Int) : Int := ofB 8 v 0
end Go.Lev.Seat

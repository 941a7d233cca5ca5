/-
  DERIVED: THE SHELF's CONTRACTS AT THIS DUMP, IN PLAIN WORDS (tools/lay-plain.mjs out of 'TryzShelf.lean', which tools/lay-shelf.mjs wrote): THE SAME DECLARATIONS UNDER THE SAME NAMES: 'import', 'namespace', 'open', 'def', 'theorem' AND NOTHING ELSE: no command of the shelf's: FOR A HAND-IN. Each laying: the table of numbers ('.._ren') and one theorem, a field a fact of the dump's own or the kernel's comparison; each contract: ONE APPLICATION.
-/
import Derived.Shelf.Strings.Builder1
import Derived.Shelf.Strings.Builder2
import Derived.Shelf.Strings.OnBuilder
import Derived.Shelf.Strconv.Itoa0
import Derived.Shelf.Strconv.Itoa1
import Derived.Shelf.LaysM
import Derived.Shelf.Strconv.Itoa2
import Derived.Shelf.Strconv.Itoa3
import Derived.Shelf.Strconv.Itoa4
import Derived.Shelf.Strconv.ParseIntEmpty
import Derived.Shelf.Strconv.Clone
import Derived.Shelf.Strconv.SyntaxError
import Derived.Shelf.LaysC
import Derived.Shelf.Strconv.ToError
import Derived.Shelf.Strconv.Lower
import Derived.Shelf.Strconv.ParseUint10
import Derived.Shelf.Strconv.ParseUint10Empty
import Derived.Shelf.Strconv.ParseUint10Any
import Derived.Shelf.Strconv.ParseInt10
import Derived.Shelf.Strconv.RangeError
import Derived.Shelf.Strconv.ToErrorRange
import Derived.Shelf.Strconv.ParseUintEmpty
import Derived.Shelf.Strconv.ParseUint10b64
import Derived.Shelf.Strconv.ParseUint10b32
import Derived.Shelf.Strconv.ParseUint10b16
import Derived.Shelf.Strconv.ParseUint10b8
import Derived.Shelf.Strconv.ParseUint10At
import Derived.Shelf.Strconv.ParseInt10At64
import Derived.Shelf.Strconv.ParseInt10At32
import Derived.Shelf.Strconv.ParseInt10At16
import Derived.Shelf.Strconv.ParseInt10At8
import Derived.Shelf.Strconv.ParseInt10All
import Derived.Shelf.Strconv.ParseIntPublic10
import Derived.Shelf.Strconv.ErrVarParseInt
import Derived.Shelf.Strings.Search1
import Derived.Shelf.Strings.Search2
import Derived.Shelf.Strings.Search3
import Derived.Shelf.Strings.Cut
import Derived.Shelf.Strings.Shaped
import Derived.Test.YtcaogimdpcaohaaGreatDoorProg
set_option linter.unusedVariables false
set_option linter.unusedSimpArgs false
set_option linter.constructorNameAsVariable false

namespace Go.Proofs
open Go.Shelf
def Tryz.lays156_ren : Go.Shelf.Ren := ⟨fun | 156 => 38 | 165 => 59 | 166 => 60 | 169 => 61 | 240 => 84 | 241 => 85 | 276 => 101 | 277 => 102 | n => n, fun | 31 => 45 | 9 => 9 | 3 => 3 | 4 => 4 | 0 => 0 | 20 => 20 | 72 => 78 | 76 => 80 | 70 => 76 | 37 => 65 | 75 => 49 | 127 => 107 | 164 => 120 | 5 => 5 | 80 => 82 | n => n, fun | n => n⟩
theorem Tryz.lays156 : Go.Proofs.Lays.n156 Tryz.prog Tryz.lays156_ren := {
  mixed := by kernel_rfl
  f156 := Tryz.func38.trans (congrArg some (by kernel_rfl))
  f165 := Tryz.func59.trans (congrArg some (by kernel_rfl))
  f166 := Tryz.func60.trans (congrArg some (by kernel_rfl))
  f169 := Tryz.func61.trans (congrArg some (by kernel_rfl))
  f240 := Tryz.func84.trans (congrArg some (by kernel_rfl))
  f241 := Tryz.func85.trans (congrArg some (by kernel_rfl))
  f276 := Tryz.func101.trans (congrArg some (by kernel_rfl))
  f277 := Tryz.func102.trans (congrArg some (by kernel_rfl))
  t0 := Tryz.underlying0
  a0 := Tryz.isAgg0
  z0 := Tryz.sizeOf0
  v0 := Tryz.zeroValue0
  t3 := Tryz.underlying3
  a3 := Tryz.isAgg3
  z3 := Tryz.sizeOf3
  v3 := Tryz.zeroValue3
  t4 := Tryz.underlying4
  a4 := Tryz.isAgg4
  z4 := Tryz.sizeOf4
  v4 := Tryz.zeroValue4
  t9 := Tryz.underlying9
  a9 := Tryz.isAgg9
  z9 := Tryz.sizeOf9
  v9 := Tryz.zeroValue9
  t20 := Tryz.underlying20
  a20 := Tryz.isAgg20
  z20 := Tryz.sizeOf20
  v20 := Tryz.zeroValue20
  t31 := Tryz.underlying45
  a31 := Tryz.isAgg45
  z31 := Tryz.sizeOf45
  v31 := Tryz.zeroValue45
  t37 := Tryz.underlying65
  a37 := Tryz.isAgg65
  z37 := Tryz.sizeOf65
  v37 := Tryz.zeroValue65
  t70 := Tryz.underlying76
  a70 := Tryz.isAgg76
  z70 := Tryz.sizeOf76
  v70 := Tryz.zeroValue76
  t72 := Tryz.underlying78
  a72 := Tryz.isAgg78
  z72 := Tryz.sizeOf78
  v72 := Tryz.zeroValue78
  t75 := Tryz.underlying49
  a75 := Tryz.isAgg49
  z75 := Tryz.sizeOf49
  v75 := Tryz.zeroValue49
  t76 := Tryz.underlying80
  a76 := Tryz.isAgg80
  z76 := Tryz.sizeOf80
  v76 := Tryz.zeroValue80
  t127 := Tryz.underlying107
  a127 := Tryz.isAgg107
  z127 := Tryz.sizeOf107
  v127 := Tryz.zeroValue107
  t164 := Tryz.underlying120
  a164 := Tryz.isAgg120
  z164 := Tryz.sizeOf120
  v164 := Tryz.zeroValue120 }
theorem Tryz.Builder_Extra_156 : Builder.Extra Tryz.prog Tryz.lays156_ren := {
  sizeBuilder := by kernel_rfl
  liesBuilder := by kernel_rfl
  t5 := Tryz.underlying5
  a5 := Tryz.isAgg5
  z5 := Tryz.sizeOf5
  v5 := Tryz.zeroValue5
  infoByte := by kernel_rfl
  cellsByte := by kernel_rfl
  sizeByte := by kernel_rfl
  neB5 := by decide }
open Go.RowKit in
/-- No element: the empty string; the world is as it was. (Whatever the slice's address and capacity: a nil slice too.) (LAID: no walk: one application.) -/
theorem Tryz.strings_Join_none (a : Option Addr) (c : Nat) (sep : ByteArray) (w : World) :
    Calls Tryz.prog 38 #[.slice a 0 c, .string sep] w fun e w' => e = .returned (.string ⟨#[]⟩) ∧ w' = w := Any.strings_Join_none Tryz.lays156 Tryz.Builder_Extra_156 a c sep w
open Go.RowKit in
/-- strings.Join: "Join concatenates the elements of its first argument to create a single string. The separator string sep is placed between elements in the resulting string.": HOWEVER MANY ELEMENTS. Below the heap's end the world is as it was. (LAID: no walk: one application.) -/
theorem Tryz.strings_Join (bk o c : Nat) (xs : List ByteArray) (sep : ByteArray) (w : World) (hcells : ∀ (j : Nat) x, xs[j]? = some x → w.cell? ⟨bk, o + j, none⟩ = some (.string x)) (hbk : bk < w.heap.size) (hN : xs.length ≤ 140737488355328) (hcap : xs.length ≤ c) (hlen : (Lib.join (xs.map (·.data.toList)) sep.data.toList).length ≤ 140737488355328) :
    Calls Tryz.prog 38 #[.slice (some ⟨bk, o, none⟩) xs.length c, .string sep] w fun e w' => e = .returned (.string ⟨(Lib.join (xs.map (·.data.toList)) sep.data.toList).toArray⟩) ∧ Below w.heap.size w w' := Any.strings_Join Tryz.lays156 Tryz.Builder_Extra_156 bk o c xs sep w hcells hbk hN hcap hlen
def Tryz.laysM171_ren : Go.Shelf.Ren := ⟨fun | 171 => 82 | 243 => 100 | 246 => 49 | 283 => 73 | 284 => 74 | 285 => 75 | 286 => 76 | 129 => 95 | 317 => 94 | 318 => 96 | 319 => 97 | 320 => 98 | 337 => 107 | 338 => 108 | n => n, fun | 3 => 3 | 9 => 9 | 2 => 2 | 4 => 4 | 171 => 92 | 0 => 0 | 53 => 64 | 37 => 65 | 5 => 5 | 173 => 95 | 212 => 115 | 51 => 55 | 20 => 20 | 213 => 116 | 46 => 71 | 232 => 130 | 233 => 131 | n => n, fun | 17 => 2 | 18 => 4 | 19 => 5 | n => n⟩
theorem Tryz.laysM171 : Go.Proofs.LaysM.n171 Tryz.prog Tryz.laysM171_ren := {
  mixed := by kernel_rfl
  f129 := Tryz.func95.trans (congrArg some (by kernel_rfl))
  f171 := Tryz.func82.trans (congrArg some (by kernel_rfl))
  f243 := Tryz.func100.trans (congrArg some (by kernel_rfl))
  f246 := Tryz.func49.trans (congrArg some (by kernel_rfl))
  f283 := Tryz.func73.trans (congrArg some (by kernel_rfl))
  f284 := Tryz.func74.trans (congrArg some (by kernel_rfl))
  f285 := Tryz.func75.trans (congrArg some (by kernel_rfl))
  f286 := Tryz.func76.trans (congrArg some (by kernel_rfl))
  f317 := Tryz.func94.trans (congrArg some (by kernel_rfl))
  f318 := Tryz.func96.trans (congrArg some (by kernel_rfl))
  f319 := Tryz.func97.trans (congrArg some (by kernel_rfl))
  f320 := Tryz.func98.trans (congrArg some (by kernel_rfl))
  f337 := Tryz.func107.trans (congrArg some (by kernel_rfl))
  f338 := Tryz.func108.trans (congrArg some (by kernel_rfl))
  t0 := Tryz.underlying0
  a0 := Tryz.isAgg0
  z0 := Tryz.sizeOf0
  v0 := Tryz.zeroValue0
  t2 := Tryz.underlying2
  a2 := Tryz.isAgg2
  z2 := Tryz.sizeOf2
  v2 := Tryz.zeroValue2
  t3 := Tryz.underlying3
  a3 := Tryz.isAgg3
  z3 := Tryz.sizeOf3
  v3 := Tryz.zeroValue3
  t4 := Tryz.underlying4
  a4 := Tryz.isAgg4
  z4 := Tryz.sizeOf4
  v4 := Tryz.zeroValue4
  t5 := Tryz.underlying5
  a5 := Tryz.isAgg5
  z5 := Tryz.sizeOf5
  v5 := Tryz.zeroValue5
  t9 := Tryz.underlying9
  a9 := Tryz.isAgg9
  z9 := Tryz.sizeOf9
  v9 := Tryz.zeroValue9
  t20 := Tryz.underlying20
  a20 := Tryz.isAgg20
  z20 := Tryz.sizeOf20
  v20 := Tryz.zeroValue20
  t37 := Tryz.underlying65
  a37 := Tryz.isAgg65
  z37 := Tryz.sizeOf65
  v37 := Tryz.zeroValue65
  t46 := Tryz.underlying71
  a46 := Tryz.isAgg71
  z46 := Tryz.sizeOf71
  v46 := Tryz.zeroValue71
  t51 := Tryz.underlying55
  a51 := Tryz.isAgg55
  z51 := Tryz.sizeOf55
  v51 := Tryz.zeroValue55
  t53 := Tryz.underlying64
  a53 := Tryz.isAgg64
  z53 := Tryz.sizeOf64
  v53 := Tryz.zeroValue64
  t171 := Tryz.underlying92
  a171 := Tryz.isAgg92
  z171 := Tryz.sizeOf92
  v171 := Tryz.zeroValue92
  t173 := Tryz.underlying95
  a173 := Tryz.isAgg95
  z173 := Tryz.sizeOf95
  v173 := Tryz.zeroValue95
  t212 := Tryz.underlying115
  a212 := Tryz.isAgg115
  z212 := Tryz.sizeOf115
  v212 := Tryz.zeroValue115
  t213 := Tryz.underlying116
  a213 := Tryz.isAgg116
  z213 := Tryz.sizeOf116
  t232 := Tryz.underlying130
  a232 := Tryz.isAgg130
  z232 := Tryz.sizeOf130
  v232 := Tryz.zeroValue130
  t233 := Tryz.underlying131
  a233 := Tryz.isAgg131
  z233 := Tryz.sizeOf131
  v233 := Tryz.zeroValue131
  g17 := by kernel_rfl
  g18 := by kernel_rfl
  g19 := by kernel_rfl
  i0 := by kernel_rfl
  i2 := by kernel_rfl
  i3 := by kernel_rfl
  i4 := by kernel_rfl
  i5 := by kernel_rfl
  i9 := by kernel_rfl
  i20 := by kernel_rfl
  i37 := by kernel_rfl
  i46 := by kernel_rfl
  i51 := by kernel_rfl
  i53 := by kernel_rfl
  i171 := by kernel_rfl
  i173 := by kernel_rfl
  i212 := by kernel_rfl
  i232 := by kernel_rfl
  i233 := by kernel_rfl
  m17 := by kernel_rfl
  m18 := by kernel_rfl
  m19 := by kernel_rfl }
open Go.RowKit Go.Sort Go.Lib in
/-- strconv.Itoa: "Itoa is equivalent to FormatInt(int64(i), 10).": i's DECIMAL NUMERAL ('Lib.itoa': a '-' where i is negative, then the digits), FOR EVERY int. The world behind the call: the world before it, new blocks behind the heap (the library's 'var a [24]byte'), draws. (LAID: no walk: one application.) -/
theorem Tryz.strconv_Itoa (n : Int) (h0 : -9223372036854775808 ≤ n) (h1 : n ≤ 9223372036854775807) (w : World) (htab : Lib.TabIs Tryz.prog w "internal/strconv.uint64pow10" .u64 Lib.pow10Tab) :
    Calls Tryz.prog 82 #[.int .i64 n] w fun e w' => e = .returned (.string ⟨(Lib.itoa n).toArray⟩) ∧ ∃ k os, w' = grow (w.drewN k) os := Any.strconv_Itoa Tryz.laysM171 n h0 h1 w htab
def Tryz.laysM173_ren : Go.Shelf.Ren := ⟨fun | 173 => 31 | 246 => 49 | 283 => 73 | 284 => 74 | 285 => 75 | 286 => 76 | 129 => 95 | 317 => 94 | 318 => 96 | 319 => 97 | 320 => 98 | 337 => 107 | 338 => 108 | n => n, fun | 2 => 2 | 3 => 3 | 9 => 9 | 4 => 4 | 171 => 92 | 0 => 0 | 53 => 64 | 37 => 65 | 5 => 5 | 173 => 95 | 212 => 115 | 51 => 55 | 20 => 20 | 213 => 116 | 46 => 71 | 232 => 130 | 233 => 131 | n => n, fun | 17 => 2 | 18 => 4 | 19 => 5 | n => n⟩
theorem Tryz.laysM173 : Go.Proofs.LaysM.n173 Tryz.prog Tryz.laysM173_ren := {
  mixed := by kernel_rfl
  f129 := Tryz.func95.trans (congrArg some (by kernel_rfl))
  f173 := Tryz.func31.trans (congrArg some (by kernel_rfl))
  f246 := Tryz.func49.trans (congrArg some (by kernel_rfl))
  f283 := Tryz.func73.trans (congrArg some (by kernel_rfl))
  f284 := Tryz.func74.trans (congrArg some (by kernel_rfl))
  f285 := Tryz.func75.trans (congrArg some (by kernel_rfl))
  f286 := Tryz.func76.trans (congrArg some (by kernel_rfl))
  f317 := Tryz.func94.trans (congrArg some (by kernel_rfl))
  f318 := Tryz.func96.trans (congrArg some (by kernel_rfl))
  f319 := Tryz.func97.trans (congrArg some (by kernel_rfl))
  f320 := Tryz.func98.trans (congrArg some (by kernel_rfl))
  f337 := Tryz.func107.trans (congrArg some (by kernel_rfl))
  f338 := Tryz.func108.trans (congrArg some (by kernel_rfl))
  t0 := Tryz.underlying0
  a0 := Tryz.isAgg0
  z0 := Tryz.sizeOf0
  v0 := Tryz.zeroValue0
  t2 := Tryz.underlying2
  a2 := Tryz.isAgg2
  z2 := Tryz.sizeOf2
  v2 := Tryz.zeroValue2
  t3 := Tryz.underlying3
  a3 := Tryz.isAgg3
  z3 := Tryz.sizeOf3
  v3 := Tryz.zeroValue3
  t4 := Tryz.underlying4
  a4 := Tryz.isAgg4
  z4 := Tryz.sizeOf4
  v4 := Tryz.zeroValue4
  t5 := Tryz.underlying5
  a5 := Tryz.isAgg5
  z5 := Tryz.sizeOf5
  v5 := Tryz.zeroValue5
  t9 := Tryz.underlying9
  a9 := Tryz.isAgg9
  z9 := Tryz.sizeOf9
  v9 := Tryz.zeroValue9
  t20 := Tryz.underlying20
  a20 := Tryz.isAgg20
  z20 := Tryz.sizeOf20
  v20 := Tryz.zeroValue20
  t37 := Tryz.underlying65
  a37 := Tryz.isAgg65
  z37 := Tryz.sizeOf65
  v37 := Tryz.zeroValue65
  t46 := Tryz.underlying71
  a46 := Tryz.isAgg71
  z46 := Tryz.sizeOf71
  v46 := Tryz.zeroValue71
  t51 := Tryz.underlying55
  a51 := Tryz.isAgg55
  z51 := Tryz.sizeOf55
  v51 := Tryz.zeroValue55
  t53 := Tryz.underlying64
  a53 := Tryz.isAgg64
  z53 := Tryz.sizeOf64
  v53 := Tryz.zeroValue64
  t171 := Tryz.underlying92
  a171 := Tryz.isAgg92
  z171 := Tryz.sizeOf92
  v171 := Tryz.zeroValue92
  t173 := Tryz.underlying95
  a173 := Tryz.isAgg95
  z173 := Tryz.sizeOf95
  v173 := Tryz.zeroValue95
  t212 := Tryz.underlying115
  a212 := Tryz.isAgg115
  z212 := Tryz.sizeOf115
  v212 := Tryz.zeroValue115
  t213 := Tryz.underlying116
  a213 := Tryz.isAgg116
  z213 := Tryz.sizeOf116
  t232 := Tryz.underlying130
  a232 := Tryz.isAgg130
  z232 := Tryz.sizeOf130
  v232 := Tryz.zeroValue130
  t233 := Tryz.underlying131
  a233 := Tryz.isAgg131
  z233 := Tryz.sizeOf131
  v233 := Tryz.zeroValue131
  g17 := by kernel_rfl
  g18 := by kernel_rfl
  g19 := by kernel_rfl
  i0 := by kernel_rfl
  i2 := by kernel_rfl
  i3 := by kernel_rfl
  i4 := by kernel_rfl
  i5 := by kernel_rfl
  i9 := by kernel_rfl
  i20 := by kernel_rfl
  i37 := by kernel_rfl
  i46 := by kernel_rfl
  i51 := by kernel_rfl
  i53 := by kernel_rfl
  i171 := by kernel_rfl
  i173 := by kernel_rfl
  i212 := by kernel_rfl
  i232 := by kernel_rfl
  i233 := by kernel_rfl
  m17 := by kernel_rfl
  m18 := by kernel_rfl
  m19 := by kernel_rfl }
open Go.RowKit Go.Sort Go.Lib in
/-- strconv.FormatInt: "FormatInt returns the string representation of i in the given base": AT BASE 10: i's decimal numeral, for every int64. (LAID: no walk: one application.) -/
theorem Tryz.strconv_FormatInt_10 (n : Int) (h0 : -9223372036854775808 ≤ n) (h1 : n ≤ 9223372036854775807) (w : World) (htab : Lib.TabIs Tryz.prog w "internal/strconv.uint64pow10" .u64 Lib.pow10Tab) :
    Calls Tryz.prog 31 #[.int .i64 n, .int .i64 10] w fun e w' => e = .returned (.string ⟨(Lib.itoa n).toArray⟩) ∧ ∃ k os, w' = grow (w.drewN k) os := Any.strconv_FormatInt_10 Tryz.laysM173 n h0 h1 w htab
def Tryz.laysC174_ren : Go.Shelf.Ren := ⟨fun | 174 => 30 | 247 => 47 | 245 => 48 | 287 => 68 | 279 => 69 | 280 => 70 | 281 => 71 | 282 => 72 | 321 => 90 | 322 => 91 | 316 => 92 | 171 => 82 | 205 => 93 | 243 => 100 | 246 => 49 | 283 => 73 | 284 => 74 | 285 => 75 | 286 => 76 | 129 => 95 | 317 => 94 | 318 => 96 | 319 => 97 | 320 => 98 | 337 => 107 | 338 => 108 | n => n, fun | 9 => 9 | 3 => 3 | 2 => 2 | 75 => 49 | 85 => 50 | 4 => 4 | 167 => 86 | 5 => 5 | 53 => 64 | 175 => 87 | 46 => 71 | 168 => 89 | 37 => 65 | 0 => 0 | 210 => 112 | 21 => 21 | 127 => 107 | 145 => 126 | 143 => 124 | 171 => 92 | 173 => 95 | 212 => 115 | 51 => 55 | 20 => 20 | 213 => 116 | 232 => 130 | 233 => 131 | 80 => 82 | n => n, fun | 15 => 0 | 16 => 1 | 17 => 2 | 18 => 4 | 19 => 5 | n => n⟩
theorem Tryz.laysC174 : Go.Proofs.LaysC.n174 Tryz.prog Tryz.laysC174_ren := {
  mixed := by kernel_rfl
  f129 := Tryz.func95.trans (congrArg some (by kernel_rfl))
  f171 := Tryz.func82.trans (congrArg some (by kernel_rfl))
  f174 := Tryz.func30.trans (congrArg some (by kernel_rfl))
  f205 := Tryz.func93.trans (congrArg some (by kernel_rfl))
  f243 := Tryz.func100.trans (congrArg some (by kernel_rfl))
  f245 := Tryz.func48.trans (congrArg some (by kernel_rfl))
  f246 := Tryz.func49.trans (congrArg some (by kernel_rfl))
  f247 := Tryz.func47.trans (congrArg some (by kernel_rfl))
  f279 := Tryz.func69.trans (congrArg some (by kernel_rfl))
  f280 := Tryz.func70.trans (congrArg some (by kernel_rfl))
  f281 := Tryz.func71.trans (congrArg some (by kernel_rfl))
  f282 := Tryz.func72.trans (congrArg some (by kernel_rfl))
  f283 := Tryz.func73.trans (congrArg some (by kernel_rfl))
  f284 := Tryz.func74.trans (congrArg some (by kernel_rfl))
  f285 := Tryz.func75.trans (congrArg some (by kernel_rfl))
  f286 := Tryz.func76.trans (congrArg some (by kernel_rfl))
  f287 := Tryz.func68.trans (congrArg some (by kernel_rfl))
  f316 := Tryz.func92.trans (congrArg some (by kernel_rfl))
  f317 := Tryz.func94.trans (congrArg some (by kernel_rfl))
  f318 := Tryz.func96.trans (congrArg some (by kernel_rfl))
  f319 := Tryz.func97.trans (congrArg some (by kernel_rfl))
  f320 := Tryz.func98.trans (congrArg some (by kernel_rfl))
  f321 := Tryz.func90.trans (congrArg some (by kernel_rfl))
  f322 := Tryz.func91.trans (congrArg some (by kernel_rfl))
  f337 := Tryz.func107.trans (congrArg some (by kernel_rfl))
  f338 := Tryz.func108.trans (congrArg some (by kernel_rfl))
  t0 := Tryz.underlying0
  a0 := Tryz.isAgg0
  z0 := Tryz.sizeOf0
  v0 := Tryz.zeroValue0
  t2 := Tryz.underlying2
  a2 := Tryz.isAgg2
  z2 := Tryz.sizeOf2
  v2 := Tryz.zeroValue2
  t3 := Tryz.underlying3
  a3 := Tryz.isAgg3
  z3 := Tryz.sizeOf3
  v3 := Tryz.zeroValue3
  t4 := Tryz.underlying4
  a4 := Tryz.isAgg4
  z4 := Tryz.sizeOf4
  v4 := Tryz.zeroValue4
  t5 := Tryz.underlying5
  a5 := Tryz.isAgg5
  z5 := Tryz.sizeOf5
  v5 := Tryz.zeroValue5
  t9 := Tryz.underlying9
  a9 := Tryz.isAgg9
  z9 := Tryz.sizeOf9
  v9 := Tryz.zeroValue9
  t20 := Tryz.underlying20
  a20 := Tryz.isAgg20
  z20 := Tryz.sizeOf20
  v20 := Tryz.zeroValue20
  t21 := Tryz.underlying21
  a21 := Tryz.isAgg21
  z21 := Tryz.sizeOf21
  v21 := Tryz.zeroValue21
  t37 := Tryz.underlying65
  a37 := Tryz.isAgg65
  z37 := Tryz.sizeOf65
  v37 := Tryz.zeroValue65
  t46 := Tryz.underlying71
  a46 := Tryz.isAgg71
  z46 := Tryz.sizeOf71
  v46 := Tryz.zeroValue71
  t51 := Tryz.underlying55
  a51 := Tryz.isAgg55
  z51 := Tryz.sizeOf55
  v51 := Tryz.zeroValue55
  t53 := Tryz.underlying64
  a53 := Tryz.isAgg64
  z53 := Tryz.sizeOf64
  v53 := Tryz.zeroValue64
  t75 := Tryz.underlying49
  a75 := Tryz.isAgg49
  z75 := Tryz.sizeOf49
  v75 := Tryz.zeroValue49
  t85 := Tryz.underlying50
  a85 := Tryz.isAgg50
  z85 := Tryz.sizeOf50
  v85 := Tryz.zeroValue50
  t127 := Tryz.underlying107
  a127 := Tryz.isAgg107
  z127 := Tryz.sizeOf107
  v127 := Tryz.zeroValue107
  t143 := Tryz.underlying124
  a143 := Tryz.isAgg124
  z143 := Tryz.sizeOf124
  v143 := Tryz.zeroValue124
  t145 := Tryz.underlying126
  a145 := Tryz.isAgg126
  z145 := Tryz.sizeOf126
  v145 := Tryz.zeroValue126
  t167 := Tryz.underlying86
  a167 := Tryz.isAgg86
  z167 := Tryz.sizeOf86
  v167 := Tryz.zeroValue86
  t168 := Tryz.underlying89
  a168 := Tryz.isAgg89
  z168 := Tryz.sizeOf89
  v168 := Tryz.zeroValue89
  t171 := Tryz.underlying92
  a171 := Tryz.isAgg92
  z171 := Tryz.sizeOf92
  v171 := Tryz.zeroValue92
  t173 := Tryz.underlying95
  a173 := Tryz.isAgg95
  z173 := Tryz.sizeOf95
  v173 := Tryz.zeroValue95
  t175 := Tryz.underlying87
  a175 := Tryz.isAgg87
  z175 := Tryz.sizeOf87
  v175 := Tryz.zeroValue87
  t210 := Tryz.underlying112
  a210 := Tryz.isAgg112
  z210 := Tryz.sizeOf112
  v210 := Tryz.zeroValue112
  t212 := Tryz.underlying115
  a212 := Tryz.isAgg115
  z212 := Tryz.sizeOf115
  v212 := Tryz.zeroValue115
  t213 := Tryz.underlying116
  a213 := Tryz.isAgg116
  z213 := Tryz.sizeOf116
  t232 := Tryz.underlying130
  a232 := Tryz.isAgg130
  z232 := Tryz.sizeOf130
  v232 := Tryz.zeroValue130
  t233 := Tryz.underlying131
  a233 := Tryz.isAgg131
  z233 := Tryz.sizeOf131
  v233 := Tryz.zeroValue131
  g15 := by kernel_rfl
  g16 := by kernel_rfl
  g17 := by kernel_rfl
  g18 := by kernel_rfl
  g19 := by kernel_rfl
  t80 := Tryz.underlying82
  a80 := Tryz.isAgg82
  z80 := Tryz.sizeOf82
  v80 := Tryz.zeroValue82
  i0 := by kernel_rfl
  i2 := by kernel_rfl
  i3 := by kernel_rfl
  i4 := by kernel_rfl
  i5 := by kernel_rfl
  i9 := by kernel_rfl
  i20 := by kernel_rfl
  i21 := by kernel_rfl
  i37 := by kernel_rfl
  i46 := by kernel_rfl
  i51 := by kernel_rfl
  i53 := by kernel_rfl
  i75 := by kernel_rfl
  i80 := by kernel_rfl
  i85 := by kernel_rfl
  i127 := by kernel_rfl
  i143 := by kernel_rfl
  i145 := by kernel_rfl
  i167 := by kernel_rfl
  i168 := by kernel_rfl
  i171 := by kernel_rfl
  i173 := by kernel_rfl
  i175 := by kernel_rfl
  i210 := by kernel_rfl
  i212 := by kernel_rfl
  i232 := by kernel_rfl
  i233 := by kernel_rfl
  m15 := by kernel_rfl
  m16 := by kernel_rfl
  m17 := by kernel_rfl
  m18 := by kernel_rfl
  m19 := by kernel_rfl
  c0 := by kernel_rfl
  c2 := by kernel_rfl
  c3 := by kernel_rfl
  c4 := by kernel_rfl
  c5 := by kernel_rfl
  c9 := by kernel_rfl
  c20 := by kernel_rfl
  c21 := by kernel_rfl
  c37 := by kernel_rfl
  c46 := by kernel_rfl
  c51 := by kernel_rfl
  c53 := by kernel_rfl
  c75 := by kernel_rfl
  c80 := by kernel_rfl
  c85 := by kernel_rfl
  c127 := by kernel_rfl
  c143 := by kernel_rfl
  c145 := by kernel_rfl
  c167 := by kernel_rfl
  c168 := by kernel_rfl
  c171 := by kernel_rfl
  c173 := by kernel_rfl
  c175 := by kernel_rfl
  c210 := by kernel_rfl
  c212 := by kernel_rfl
  c213 := by kernel_rfl
  c232 := by kernel_rfl
  c233 := by kernel_rfl }
open Go.RowKit in
/-- strconv.ParseInt(s, 10, 64), AT EVERY STRING THAT SPELLS AN int64 ('Lib.parseIntB 64 s.data.toList = .ok v'): v, AND NO ERROR. (LAID: no walk: one application.) -/
theorem Tryz.strconv_ParseInt_10_at64_ok (s : ByteArray) (hmax : s.size ≤ 9223372036854775806) (v : Int) (h : Lib.parseIntB 64 s.data.toList = .ok v) (w : World) :
    Calls Tryz.prog 30 #[.string s, .int .i64 10, .int .i64 64] w fun e w' => e = .returned (.tuple #[.int .i64 v, .nilIface]) ∧ (w' = w ∨ ∃ t, w' = Lib.bytesWorld w 5 t) := Any.strconv_ParseInt_10_at64_ok Tryz.laysC174 s hmax v h w
open Go.RowKit in
theorem Tryz.strconv_ParseInt_10_at64_syntax_var (s : ByteArray) (hlim : s.size ≤ 281474976710656) (h : Lib.parseIntB 64 s.data.toList = (Lib.parseIntB 64 [])) (tp : TypeId) (p : Value) (w : World) (hvar : w.var? Tryz.prog "strconv.ErrSyntax" = some #[.iface tp p]) :
    Calls Tryz.prog 30 #[.string s, .int .i64 10, .int .i64 64] w fun e w' => ∃ N, e = .returned (.tuple #[.int .i64 (0), .iface 89 (.pointer (some ⟨N, 0, none⟩))]) ∧ w.heap.size ≤ N ∧ w'.heap[N]? = some (.cells #[.string ⟨#[80, 97, 114, 115, 101, 73, 110, 116]⟩, .string s, .iface tp p] 112 (0, 0)) ∧ Below w.heap.size w w' := Any.strconv_ParseInt_10_at64_syntax_var Tryz.laysC174 s hlim h tp p w hvar
open Go.RowKit in
theorem Tryz.strconv_ParseInt_10_at64_range_var (s : ByteArray) (hlim : s.size ≤ 281474976710656) (h : Lib.parseIntB 64 s.data.toList = .range) (tp : TypeId) (p : Value) (w : World) (hvar : w.var? Tryz.prog "strconv.ErrRange" = some #[.iface tp p]) :
    Calls Tryz.prog 30 #[.string s, .int .i64 10, .int .i64 64] w fun e w' => ∃ N, e = .returned (.tuple #[.int .i64 (Lib.intSat 64 s.data.toList), .iface 89 (.pointer (some ⟨N, 0, none⟩))]) ∧ w.heap.size ≤ N ∧ w'.heap[N]? = some (.cells #[.string ⟨#[80, 97, 114, 115, 101, 73, 110, 116]⟩, .string s, .iface tp p] 112 (0, 0)) ∧ Below w.heap.size w w' := Any.strconv_ParseInt_10_at64_range_var Tryz.laysC174 s hlim h tp p w hvar
def Tryz.lays144_ren : Go.Shelf.Ren := ⟨fun | 144 => 67 | 143 => 89 | 219 => 86 | 217 => 103 | 225 => 104 | 224 => 105 | 267 => 106 | 266 => 109 | 314 => 110 | n => n, fun | 9 => 9 | 4 => 4 | 3 => 3 | 5 => 5 | 46 => 71 | 146 => 128 | 51 => 55 | n => n, fun | 1 => 3 | n => n⟩
theorem Tryz.lays144 : Go.Proofs.Lays.n144 Tryz.prog Tryz.lays144_ren := {
  mixed := by kernel_rfl
  f143 := Tryz.func89.trans (congrArg some (by kernel_rfl))
  f144 := Tryz.func67.trans (congrArg some (by kernel_rfl))
  f217 := Tryz.func103.trans (congrArg some (by kernel_rfl))
  f219 := Tryz.func86.trans (congrArg some (by kernel_rfl))
  f224 := Tryz.func105.trans (congrArg some (by kernel_rfl))
  f225 := Tryz.func104.trans (congrArg some (by kernel_rfl))
  f266 := Tryz.func109.trans (congrArg some (by kernel_rfl))
  f267 := Tryz.func106.trans (congrArg some (by kernel_rfl))
  f314 := Tryz.func110.trans (congrArg some (by kernel_rfl))
  t3 := Tryz.underlying3
  a3 := Tryz.isAgg3
  z3 := Tryz.sizeOf3
  v3 := Tryz.zeroValue3
  t4 := Tryz.underlying4
  a4 := Tryz.isAgg4
  z4 := Tryz.sizeOf4
  v4 := Tryz.zeroValue4
  t5 := Tryz.underlying5
  a5 := Tryz.isAgg5
  z5 := Tryz.sizeOf5
  v5 := Tryz.zeroValue5
  t9 := Tryz.underlying9
  a9 := Tryz.isAgg9
  z9 := Tryz.sizeOf9
  v9 := Tryz.zeroValue9
  t46 := Tryz.underlying71
  a46 := Tryz.isAgg71
  z46 := Tryz.sizeOf71
  v46 := Tryz.zeroValue71
  t51 := Tryz.underlying55
  a51 := Tryz.isAgg55
  z51 := Tryz.sizeOf55
  v51 := Tryz.zeroValue55
  t146 := Tryz.underlying128
  a146 := Tryz.isAgg128
  z146 := Tryz.sizeOf128
  v146 := Tryz.zeroValue128
  g1 := by kernel_rfl }
open Go.RowKit Go.Lib in
/-- strings.Contains: "Contains reports whether substr is within s.": IT RETURNS 'Lib.contains s substr'; the world is as it was. (LAID: no walk: one application.) -/
theorem Tryz.strings_Contains (s sub : ByteArray) (m : Int) (w : World) (hs : s.size < 4294967281) (hm : w.cell? ⟨3, 0, none⟩ = some (.int .i64 m)) :
    Calls Tryz.prog 67 #[.string s, .string sub] w fun e w' => e = .returned (.bool (Lib.contains s.data.toList sub.data.toList)) ∧ w' = w := Any.strings_Contains Tryz.lays144 s sub m w hs hm
def Tryz.lays145_ren : Go.Shelf.Ren := ⟨fun | 145 => 40 | 220 => 62 | 219 => 86 | 217 => 103 | 225 => 104 | 224 => 105 | 267 => 106 | 266 => 109 | 314 => 110 | n => n, fun | 9 => 9 | 4 => 4 | 59 => 66 | 3 => 3 | 5 => 5 | 46 => 71 | 146 => 128 | 51 => 55 | n => n, fun | 1 => 3 | n => n⟩
theorem Tryz.lays145 : Go.Proofs.Lays.n145 Tryz.prog Tryz.lays145_ren := {
  mixed := by kernel_rfl
  f145 := Tryz.func40.trans (congrArg some (by kernel_rfl))
  f217 := Tryz.func103.trans (congrArg some (by kernel_rfl))
  f219 := Tryz.func86.trans (congrArg some (by kernel_rfl))
  f220 := Tryz.func62.trans (congrArg some (by kernel_rfl))
  f224 := Tryz.func105.trans (congrArg some (by kernel_rfl))
  f225 := Tryz.func104.trans (congrArg some (by kernel_rfl))
  f266 := Tryz.func109.trans (congrArg some (by kernel_rfl))
  f267 := Tryz.func106.trans (congrArg some (by kernel_rfl))
  f314 := Tryz.func110.trans (congrArg some (by kernel_rfl))
  t3 := Tryz.underlying3
  a3 := Tryz.isAgg3
  z3 := Tryz.sizeOf3
  v3 := Tryz.zeroValue3
  t4 := Tryz.underlying4
  a4 := Tryz.isAgg4
  z4 := Tryz.sizeOf4
  v4 := Tryz.zeroValue4
  t5 := Tryz.underlying5
  a5 := Tryz.isAgg5
  z5 := Tryz.sizeOf5
  v5 := Tryz.zeroValue5
  t9 := Tryz.underlying9
  a9 := Tryz.isAgg9
  z9 := Tryz.sizeOf9
  v9 := Tryz.zeroValue9
  t46 := Tryz.underlying71
  a46 := Tryz.isAgg71
  z46 := Tryz.sizeOf71
  v46 := Tryz.zeroValue71
  t51 := Tryz.underlying55
  a51 := Tryz.isAgg55
  z51 := Tryz.sizeOf55
  v51 := Tryz.zeroValue55
  t59 := Tryz.underlying66
  a59 := Tryz.isAgg66
  z59 := Tryz.sizeOf66
  v59 := Tryz.zeroValue66
  t146 := Tryz.underlying128
  a146 := Tryz.isAgg128
  z146 := Tryz.sizeOf128
  v146 := Tryz.zeroValue128
  g1 := by kernel_rfl }
open Go.RowKit Go.Lib in
/-- strings.Cut: "Cut slices s around the first instance of sep, returning the text before and after sep. The found result reports whether sep appears in s. If sep does not appear in s, cut returns s, "", false.": IT RETURNS 'Lib.cut s sep'; the world is as it was but for the count of draws. (LAID: no walk: one application.) -/
theorem Tryz.strings_Cut (s sep : ByteArray) (m : Int) (w : World) (hs : s.size < 4294967281) (hm : w.cell? ⟨3, 0, none⟩ = some (.int .i64 m)) :
    Calls Tryz.prog 40 #[.string s, .string sep] w fun e w' => e = .returned (.tuple #[.string ⟨(Lib.cut s.data.toList sep.data.toList).1.toArray⟩, .string ⟨(Lib.cut s.data.toList sep.data.toList).2.1.toArray⟩, .bool (Lib.cut s.data.toList sep.data.toList).2.2]) ∧ ∃ n, w' = w.drewN n := Any.strings_Cut Tryz.lays145 s sep m w hs hm
end Go.Proofs

/- Texts as lists of bytes. -/
import Derived.Test.YtcaogimdpcaohaaDoorLev18
import Derived.Laws.BitsLemmas
import Derived.Laws.Bits64
set_option linter.unusedVariables false
set_option linter.unusedSimpArgs false
namespace Go.Lev
open Go

theorem bytes_len (b : ByteArray) : b.data.toList.length = b.size := by
  cases b with
  | mk d => show d.toList.length = d.size; exact Array.length_toList
theorem bytes_loop (b : ByteArray) : ∀ (n i : Nat) (r : List UInt8), b.size - i = n → ByteArray.toList.loop b i r = r.reverse ++ b.data.toList.drop i
  | 0, i, r, h => by
    rw [ByteArray.toList.loop]
    have h1 : ¬ i < b.size := by omega
    have h2 : b.data.toList.length ≤ i := by have := bytes_len b; omega
    rw [if_neg h1, List.drop_eq_nil_of_le h2, List.append_nil]
  | n + 1, i, r, h => by
    rw [ByteArray.toList.loop]
    have h1 : i < b.size := by omega
    have h2 : i < b.data.toList.length := by have := bytes_len b; omega
    rw [if_pos h1, bytes_loop b n (i + 1) _ (by omega), List.drop_eq_getElem_cons h2]
    simp [ByteArray.get!, h1]
theorem bytes_list (b : ByteArray) : b.toList = b.data.toList := by
  unfold ByteArray.toList
  rw [bytes_loop b _ 0 [] rfl]
  simp
/-- A text of bytes. -/
abbrev strV (l : List UInt8) : Value := .string ⟨l.toArray⟩
theorem strV_of (s : ByteArray) : Value.string s = strV s.data.toList := rfl
@[simp] theorem bytes_mk (l : List UInt8) : (⟨l.toArray⟩ : ByteArray).toList = l := by rw [bytes_list]
@[simp] theorem bytes_size (l : List UInt8) : (⟨l.toArray⟩ : ByteArray).size = l.length := rfl
@[simp] theorem bytes_app (l m : List UInt8) : (⟨l.toArray⟩ ++ ⟨m.toArray⟩ : ByteArray) = ⟨(l ++ m).toArray⟩ := by
  apply ByteArray.ext
  simp
@[simp] theorem bytes_extract (l : List UInt8) (a b : Nat) : (⟨l.toArray⟩ : ByteArray).extract a b = ⟨((l.drop a).take (b - a)).toArray⟩ := by
  apply ByteArray.ext
  simp
/-- A text behind its first n parts. -/
def sndN : Nat → LC → LC
  | 0, c => c
  | n + 1, .seq _ b => sndN n b
  | _ + 1, c => c
@[simp] theorem ixSV_mk (l : List UInt8) (k : IntKind) (n : Nat) : ixSV (strV l) (.int k n) = (l[n]?).map fun b => .int .u8 b.toNat := by simp [ixSV]
@[simp] theorem ixSV_zero (l : List UInt8) (k : IntKind) : ixSV (strV l) (.int k 0) = (l[0]?).map fun b => .int .u8 b.toNat := by simp [ixSV]
theorem slcTV_drop (l : List UInt8) (k : IntKind) (n : Nat) (h : n ≤ l.length) : slcTV (strV l) (some (.int k n)) none = some (strV (l.drop n)) := by
  have e : List.take (l.length - n) (l.drop n) = l.drop n := by rw [List.take_of_length_le]; simp
  simp [slcTV, h, e]
theorem slcTV_drop1 (l : List UInt8) (k : IntKind) (h : 1 ≤ l.length) : slcTV (strV l) (some (.int k 1)) none = some (strV (l.drop 1)) := slcTV_drop l k 1 h
theorem slcTV_take (l : List UInt8) (k : IntKind) (n : Nat) (h : n ≤ l.length) : slcTV (strV l) none (some (.int k n)) = some (strV (l.take n)) := by
  simp [slcTV, h]
theorem slcTV_seg (l : List UInt8) (k j : IntKind) (a b : Nat) (h : a ≤ b) (h2 : b ≤ l.length) : slcTV (strV l) (some (.int k a)) (some (.int j b)) = some (strV ((l.drop a).take (b - a))) := by
  simp [slcTV, h, h2]

section
variable (k : IntKind) (a b : Int)
@[simp] theorem bv_add : binV .add (.int k a) (.int k b) = some (.int k (k.wrap (a + b))) := notRfl (by simp [binV, isShift, binInt])
@[simp] theorem bv_sub : binV .sub (.int k a) (.int k b) = some (.int k (k.wrap (a - b))) := notRfl (by simp [binV, isShift, binInt])
@[simp] theorem bv_mul : binV .mul (.int k a) (.int k b) = some (.int k (k.wrap (a * b))) := notRfl (by simp [binV, isShift, binInt])
@[simp] theorem bv_quo : binV .quo (.int k a) (.int k b) = if b = 0 then none else some (.int k (k.wrap (a.tdiv b))) := notRfl (by simp [binV, isShift, binInt])
@[simp] theorem bv_rem : binV .rem (.int k a) (.int k b) = if b = 0 then none else some (.int k (a.tmod b)) := notRfl (by simp [binV, isShift, binInt])
@[simp] theorem bv_and : binV .and (.int k a) (.int k b) = some (.int k (k.wrap (BitVec.ofInt k.bits a &&& BitVec.ofInt k.bits b).toNat)) := notRfl (by simp [binV, isShift, binInt])
@[simp] theorem bv_or : binV .or (.int k a) (.int k b) = some (.int k (k.wrap (BitVec.ofInt k.bits a ||| BitVec.ofInt k.bits b).toNat)) := notRfl (by simp [binV, isShift, binInt])
@[simp] theorem bv_eql : binV .eql (.int k a) (.int k b) = some (.bool (decide (a = b))) := notRfl (by simp [binV, isShift, binInt]; rfl)
@[simp] theorem bv_neq : binV .neq (.int k a) (.int k b) = some (.bool (!decide (a = b))) := notRfl (by simp [binV, isShift, binInt]; rfl)
@[simp] theorem bv_lss : binV .lss (.int k a) (.int k b) = some (.bool (decide (a < b))) := notRfl (by simp [binV, isShift, binInt])
@[simp] theorem bv_leq : binV .leq (.int k a) (.int k b) = some (.bool (decide (a ≤ b))) := notRfl (by simp [binV, isShift, binInt])
@[simp] theorem bv_gtr : binV .gtr (.int k a) (.int k b) = some (.bool (decide (b < a))) := notRfl (by simp [binV, isShift, binInt])
@[simp] theorem bv_geq : binV .geq (.int k a) (.int k b) = some (.bool (decide (b ≤ a))) := notRfl (by simp [binV, isShift, binInt])
@[simp] theorem bv_seq (l m : List UInt8) : binV .eql (strV l) (strV m) = some (.bool (decide (l = m))) := notRfl (by simp only [binV, binStr, bytes_mk]; congr 2; rw [Bool.eq_iff_iff]; simp)
@[simp] theorem bv_sne (l m : List UInt8) : binV .neq (strV l) (strV m) = some (.bool (!decide (l = m))) := notRfl (by simp only [binV, binStr, bytes_mk]; congr 3; rw [Bool.eq_iff_iff]; simp)
theorem bv_sadd (l m : List UInt8) (h : l.length + m.length ≤ 4611686018427387904) : binV .add (strV l) (strV m) = some (strV (l ++ m)) := notRfl (by simp [binV, binStr, h])
@[simp] theorem uv_not (b : Bool) : unV .not (.bool b) = some (.bool (!b)) := notRfl rfl
@[simp] theorem uv_neg : unV .neg (.int k a) = some (.int k (k.wrap (0 - a))) := notRfl rfl
@[simp] theorem bb_eql (x y : Bool) : Lev.binB .eql (.bool x) (.bool y) = some (.bool (x == y)) := notRfl rfl
@[simp] theorem bb_neq (x y : Bool) : Lev.binB .neq (.bool x) (.bool y) = some (.bool (!(x == y))) := notRfl rfl
end
end Go.Lev

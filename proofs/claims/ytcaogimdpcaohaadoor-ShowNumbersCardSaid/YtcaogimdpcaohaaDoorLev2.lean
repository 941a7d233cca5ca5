/- How a memory of numbered boxes lies in a world: relations and how they go on. -/
import Derived.Test.YtcaogimdpcaohaaDoorLev1
set_option linter.unusedVariables false
namespace Go.Lev
open Go Go.RowKit

/-- Where a box lies. -/
structure RB where
  blk : Nat
  base : Nat
  size : Nat
  gen : Nat
  row : Nat

inductive VRel (N : Nat) (ρ : Nat → RB) (h : Array Obj) : Value → Value → Prop
  | bool (b : Bool) : VRel N ρ h (.bool b) (.bool b)
  | int (k : IntKind) (n : Int) : VRel N ρ h (.int k n) (.int k n)
  | float (k : FloatKind) (n : Nat) : VRel N ρ h (.float k n) (.float k n)
  | string (s : ByteArray) : VRel N ρ h (.string s) (.string s)
  | nilIface : VRel N ρ h .nilIface .nilIface
  | nilFunc : VRel N ρ h .nilFunc .nilFunc
  | ptrNil : VRel N ρ h (.pointer none) (.pointer none)
  | ptr (id off g : Nat) (a : Addr) (hid : id < N) (hg : g ≤ (ρ id).gen) (ha : g = (ρ id).gen → a = ⟨(ρ id).blk, (ρ id).base + off, none⟩) :
      VRel N ρ h (.pointer (some ⟨id, off, some g⟩)) (.pointer (some a))
  | sliceNil : VRel N ρ h (.slice none 0 0) (.slice none 0 0)
  | slice (id off g n c c' : Nat) (a : Addr) (hid : id < N) (hg : g ≤ (ρ id).gen) (hn : n ≤ c')
      (ha : g = (ρ id).gen → (0 < c' → a = ⟨(ρ id).blk, (ρ id).base + off, none⟩) ∧ ((ρ id).row = c → c ≠ 0 → 0 < c' → (ρ id).base + off + c' * c ≤ (ρ id).size)) :
      VRel N ρ h (.slice (some ⟨id, off, some g⟩) n c) (.slice (some a) n c')
  | agg (cs cs' : Array Value) (hs : cs.size = cs'.size) (hc : ∀ (i : Nat) (v v' : Value), cs[i]? = some v → cs'[i]? = some v' → VRel N ρ h v v') :
      VRel N ρ h (.agg cs) (.agg cs')
  | tuple (cs cs' : Array Value) (hs : cs.size = cs'.size) (hc : ∀ (i : Nat) (v v' : Value), cs[i]? = some v → cs'[i]? = some v' → VRel N ρ h v v') :
      VRel N ρ h (.tuple cs) (.tuple cs')
  | iface (t : TypeId) (v v' : Value) (hv : VRel N ρ h v v') : VRel N ρ h (.iface t v) (.iface t v')
  | func (f : FuncId) (fs fs' cs cs' : Array Value) (hs : fs.size = fs'.size) (hf : ∀ (i : Nat) (v v' : Value), fs[i]? = some v → fs'[i]? = some v' → VRel N ρ h v v')
      (hs' : cs.size = cs'.size) (hc : ∀ (i : Nat) (v v' : Value), cs[i]? = some v → cs'[i]? = some v' → VRel N ρ h v v') :
      VRel N ρ h (.func (.func f) fs cs) (.func (.func f) fs' cs')
  | marker (cs cs' : Array Value) (k n c : Nat) (e : TypeId) (fr : Nat × Nat) (hk : k < h.size) (hn : n ≤ c) (hf : ∀ id, id < N → (ρ id).blk ≠ k) (hh : h[k]? = some (.cells cs' e fr)) (hs : cs.size = cs'.size)
      (hc : ∀ (i : Nat) (v v' : Value), cs[i]? = some v → cs'[i]? = some v' → VRel N ρ h v v') :
      VRel N ρ h (.func (.yield n) #[] cs) (.slice (some ⟨k, 0, none⟩) n c)

structure BoxRel (w0 : World) (N : Nat) (ρ : Nat → RB) (h : Array Obj) (id : Nat) (b : Box) : Prop where
  gen : (ρ id).gen = b.gen
  row : (ρ id).row = b.row
  fresh : b.ro = false → w0.heap.size ≤ (ρ id).blk
  cells : ∃ cs e fr, h[(ρ id).blk]? = some (.cells cs e fr) ∧ (b.ro = false → fr = (0, 0)) ∧ cs.size = (ρ id).size ∧
    ∀ (i : Nat) (v : Value), b.cells[i]? = some v → ∃ v', cs[(ρ id).base + i]? = some v' ∧ VRel N ρ h v v'

structure Rel (w0 : World) (ρ : Nat → RB) (H : Heap) (w : World) : Prop where
  below : Below w0.heap.size w0 w
  box : ∀ (id : Nat) (b : Box), H[id]? = some b → BoxRel w0 H.length ρ w.heap id b
  sep : ∀ (i j : Nat) (b c : Box), H[i]? = some b → H[j]? = some c → i ≠ j → (b.ro = false ∨ c.ro = false) → (ρ i).blk ≠ (ρ j).blk

structure Ext (N : Nat) (ρ : Nat → RB) (h : Array Obj) (N' : Nat) (ρ' : Nat → RB) (h' : Array Obj) : Prop where
  len : N ≤ N'
  gen : ∀ id, id < N → (ρ id).gen ≤ (ρ' id).gen ∧ ((ρ' id).gen = (ρ id).gen → ρ' id = ρ id)
  blk : ∀ id, id < N' → (id < N ∧ (ρ' id).blk = (ρ id).blk) ∨ h.size ≤ (ρ' id).blk
  size : h.size ≤ h'.size
  frame : ∀ k, k < h.size → (∀ id, id < N → (ρ id).blk ≠ k) → h'[k]? = h[k]?

theorem Ext.refl (N : Nat) (ρ : Nat → RB) (h : Array Obj) : Ext N ρ h N ρ h :=
  ⟨Nat.le_refl _, fun _ _ => ⟨Nat.le_refl _, fun _ => rfl⟩, fun _ h => .inl ⟨h, rfl⟩, Nat.le_refl _, fun _ _ _ => rfl⟩

theorem Ext.img {N N' : Nat} {ρ ρ' : Nat → RB} {h h' : Array Obj} (x : Ext N ρ h N' ρ' h') {k : Nat} (hk : k < h.size) (hf : ∀ id, id < N → (ρ id).blk ≠ k) :
    ∀ id, id < N' → (ρ' id).blk ≠ k := by
  intro id hid
  rcases x.blk id hid with ⟨h1, h2⟩ | h1
  · rw [h2]; exact hf id h1
  · omega

theorem Ext.trans {N N' N'' : Nat} {ρ ρ' ρ'' : Nat → RB} {h h' h'' : Array Obj} (x : Ext N ρ h N' ρ' h') (y : Ext N' ρ' h' N'' ρ'' h'') : Ext N ρ h N'' ρ'' h'' := by
  refine ⟨Nat.le_trans x.len y.len, fun id hid => ?_, fun id hid => ?_, Nat.le_trans x.size y.size, fun k hk hf => ?_⟩
  · have a := x.gen id hid
    have b := y.gen id (Nat.lt_of_lt_of_le hid x.len)
    refine ⟨Nat.le_trans a.1 b.1, fun e => ?_⟩
    have e1 : (ρ' id).gen = (ρ id).gen := by omega
    have e2 : (ρ'' id).gen = (ρ' id).gen := by omega
    rw [b.2 e2, a.2 e1]
  · rcases y.blk id hid with ⟨h1, h2⟩ | h1
    · rcases x.blk id h1 with ⟨h3, h4⟩ | h3
      · exact .inl ⟨h3, by rw [h2, h4]⟩
      · exact .inr (by rw [h2]; exact h3)
    · exact .inr (Nat.le_trans x.size h1)
  · rw [y.frame k (Nat.lt_of_lt_of_le hk x.size) (x.img hk hf), x.frame k hk hf]

theorem VRel.mono {N N' : Nat} {ρ ρ' : Nat → RB} {h h' : Array Obj} {v v' : Value} (r : VRel N ρ h v v') (x : Ext N ρ h N' ρ' h') : VRel N' ρ' h' v v' := by
  induction r with
  | bool b => exact .bool b
  | int k n => exact .int k n
  | float k n => exact .float k n
  | string s => exact .string s
  | nilIface => exact .nilIface
  | nilFunc => exact .nilFunc
  | ptrNil => exact .ptrNil
  | ptr id off g a hid hg ha =>
    have y := x.gen id hid
    refine .ptr id off g a (Nat.lt_of_lt_of_le hid x.len) (Nat.le_trans hg y.1) fun e => ?_
    have e1 : (ρ' id).gen = (ρ id).gen := by omega
    rw [y.2 e1]
    exact ha (by omega)
  | sliceNil => exact .sliceNil
  | slice id off g n c c' a hid hg hn ha =>
    have y := x.gen id hid
    refine .slice id off g n c c' a (Nat.lt_of_lt_of_le hid x.len) (Nat.le_trans hg y.1) hn fun e => ?_
    have e1 : (ρ' id).gen = (ρ id).gen := by omega
    rw [y.2 e1]
    exact ha (by omega)
  | agg cs cs' hs hc ih => exact .agg cs cs' hs ih
  | tuple cs cs' hs hc ih => exact .tuple cs cs' hs ih
  | iface t v v' hv ih => exact .iface t v v' ih
  | func f fs fs' cs cs' hs hf hs' hc ih1 ih2 => exact .func f fs fs' cs cs' hs ih1 hs' ih2
  | marker cs cs' k n c e fr hk hn hf hh hs hc ih =>
    exact .marker cs cs' k n c e fr (Nat.lt_of_lt_of_le hk x.size) hn (x.img hk hf) (by rw [x.frame k hk hf]; exact hh) hs ih

/-- A value's addresses lie among the first N boxes, and where these lie is told alike: what relates over more boxes relates over these. -/
theorem VRel.transfer {N N' : Nat} {ρ ρ' : Nat → RB} {h h' : Array Obj} {v a b : Value} (r : VRel N ρ h v a) (hN : N ≤ N') (hρ : ∀ id, id < N → ρ' id = ρ id)
    (s : VRel N' ρ' h' v b) : VRel N ρ h' v b := by
  induction r generalizing b with
  | bool x => cases s; exact .bool _
  | int k n => cases s; exact .int _ _
  | float k n => cases s; exact .float _ _
  | string x => cases s; exact .string _
  | nilIface => cases s; exact .nilIface
  | nilFunc => cases s; exact .nilFunc
  | ptrNil => cases s; exact .ptrNil
  | ptr id off g a hid hg ha =>
    cases s with
    | ptr _ _ _ a' _ hg' ha' =>
      rw [hρ id hid] at hg' ha'
      exact .ptr id off g a' hid hg' ha'
  | sliceNil => cases s; exact .sliceNil
  | slice id off g n c c' a hid hg hn ha =>
    cases s with
    | slice _ _ _ _ _ c'' a' _ hg' hn' ha' =>
      rw [hρ id hid] at hg' ha'
      exact .slice id off g n c c'' a' hid hg' hn' ha'
  | agg cs cs' hs hc ih =>
    cases s with
    | agg _ cs'' hs' hc' =>
      refine .agg cs cs'' hs' fun i v v' h1 h2 => ?_
      have hi : i < cs'.size := by
        have := (Array.getElem?_eq_some_iff.1 h1).1
        omega
      exact ih i v _ h1 (Array.getElem?_eq_getElem hi) (hc' i v v' h1 h2)
  | tuple cs cs' hs hc ih =>
    cases s with
    | tuple _ cs'' hs' hc' =>
      refine .tuple cs cs'' hs' fun i v v' h1 h2 => ?_
      have hi : i < cs'.size := by
        have := (Array.getElem?_eq_some_iff.1 h1).1
        omega
      exact ih i v _ h1 (Array.getElem?_eq_getElem hi) (hc' i v v' h1 h2)
  | iface t v v' hv ih =>
    cases s with
    | iface _ _ v'' hv' => exact .iface t v v'' (ih hv')
  | func f fs fs' cs cs' hs hf hs' hc ih1 ih2 =>
    cases s with
    | func _ _ fs'' _ cs'' gs gf gs' gc =>
      refine .func f fs fs'' cs cs'' gs (fun i v v' h1 h2 => ?_) gs' fun i v v' h1 h2 => ?_
      · have hi : i < fs'.size := by
          have := (Array.getElem?_eq_some_iff.1 h1).1
          omega
        exact ih1 i v _ h1 (Array.getElem?_eq_getElem hi) (gf i v v' h1 h2)
      · have hi : i < cs'.size := by
          have := (Array.getElem?_eq_some_iff.1 h1).1
          omega
        exact ih2 i v _ h1 (Array.getElem?_eq_getElem hi) (gc i v v' h1 h2)
  | marker cs cs' k n c e fr hk hn hf hh hs hc ih =>
    cases s with
    | marker _ cs'' k' n' c' e' fr' hk' hn' hf' hh' hs' hc' =>
      refine .marker cs cs'' k' _ c' e' fr' hk' hn' (fun id hid => ?_) hh' hs' fun i v v' h1 h2 => ?_
      · rw [← hρ id hid]; exact hf' id (Nat.lt_of_lt_of_le hid hN)
      · have hi : i < cs'.size := by
          have := (Array.getElem?_eq_some_iff.1 h1).1
          omega
        exact ih i v _ h1 (Array.getElem?_eq_getElem hi) (hc' i v v' h1 h2)

theorem VRel.sc0 {N : Nat} {ρ : Nat → RB} {h : Array Obj} {v v' : Value} (r : VRel N ρ h v v') (hs : isSc0 v = true) : v' = v := by
  cases r <;> first | rfl | simp [isSc0] at hs

theorem VRel.sc {N : Nat} {ρ : Nat → RB} {h : Array Obj} {v v' : Value} (r : VRel N ρ h v v') (hs : isSc v = true) : v' = v := by
  cases r with
  | agg cs cs' hz hc =>
    congr 1
    apply Array.ext
    · exact hz.symm
    · intro i h1 h2
      have := hc i cs[i] cs'[i] (Array.getElem?_eq_getElem h2) (Array.getElem?_eq_getElem h1)
      exact this.sc0 (by simp only [isSc, Array.all_eq_true] at hs; exact hs i h2)
  | _ => first | rfl | simp [isSc, isSc0] at hs

theorem VRel.ofSc0 {N : Nat} {ρ : Nat → RB} {h : Array Obj} {v : Value} (hs : isSc0 v = true) : VRel N ρ h v v := by
  cases v with
  | bool b => exact .bool _
  | int k n => exact .int _ _
  | float k n => exact .float _ _
  | string s => exact .string _
  | nilIface => exact .nilIface
  | nilFunc => exact .nilFunc
  | pointer a => cases a with
    | none => exact .ptrNil
    | some a => simp [isSc0] at hs
  | slice a n c => cases a with
    | none =>
      simp [isSc0] at hs
      obtain ⟨rfl, rfl⟩ := hs
      exact .sliceNil
    | some a => simp [isSc0] at hs
  | _ => simp [isSc0] at hs

theorem VRel.ofSc {N : Nat} {ρ : Nat → RB} {h : Array Obj} {v : Value} (hs : isSc v = true) : VRel N ρ h v v := by
  cases v with
  | agg cs =>
    refine .agg cs cs rfl fun i v v' h1 h2 => ?_
    rw [h1] at h2
    obtain rfl := Option.some.inj h2
    have hi := (Array.getElem?_eq_some_iff.1 h1)
    obtain ⟨hi, rfl⟩ := hi
    simp only [isSc, Array.all_eq_true] at hs
    exact .ofSc0 (hs i hi)
  | _ => exact .ofSc0 (by simpa [isSc] using hs)

theorem VRel.oneCell {N : Nat} {ρ : Nat → RB} {h : Array Obj} {v v' : Value} (r : VRel N ρ h v v') : v'.oneCell' = v.oneCell' := by
  cases r <;> rfl

theorem VRel.undef (N : Nat) (ρ : Nat → RB) (h : Array Obj) : VRel N ρ h undef undef :=
  .tuple #[] #[] rfl fun i v v' h1 _ => by simp at h1

/-- Lists of related values. -/
def LRel (N : Nat) (ρ : Nat → RB) (h : Array Obj) (l l' : List Value) : Prop := l.length = l'.length ∧ ∀ (i : Nat) (v v' : Value), l[i]? = some v → l'[i]? = some v' → VRel N ρ h v v'

theorem LRel.mono {N N' : Nat} {ρ ρ' : Nat → RB} {h h' : Array Obj} {l l' : List Value} (r : LRel N ρ h l l') (x : Ext N ρ h N' ρ' h') : LRel N' ρ' h' l l' :=
  ⟨r.1, fun i v v' a b => (r.2 i v v' a b).mono x⟩
theorem LRel.nil (N : Nat) (ρ : Nat → RB) (h : Array Obj) : LRel N ρ h [] [] := ⟨rfl, fun i v v' a _ => by simp at a⟩
theorem LRel.cons {N : Nat} {ρ : Nat → RB} {h : Array Obj} {v v' : Value} {l l' : List Value} (r : VRel N ρ h v v') (s : LRel N ρ h l l') : LRel N ρ h (v :: l) (v' :: l') := by
  refine ⟨by simp [s.1], fun i a b h1 h2 => ?_⟩
  cases i with
  | zero => simp at h1 h2; subst h1; subst h2; exact r
  | succ i => exact s.2 i a b (by simpa using h1) (by simpa using h2)
theorem LRel.get {N : Nat} {ρ : Nat → RB} {h : Array Obj} {l l' : List Value} (r : LRel N ρ h l l') {i : Nat} {v : Value} (hi : l[i]? = some v) : ∃ v', l'[i]? = some v' ∧ VRel N ρ h v v' := by
  have h1 := (List.getElem?_eq_some_iff.1 hi).1
  have h2 : i < l'.length := by have := r.1; omega
  exact ⟨l'[i], List.getElem?_eq_getElem h2, r.2 i v _ hi (List.getElem?_eq_getElem h2)⟩
theorem LRel.app {N : Nat} {ρ : Nat → RB} {h : Array Obj} {l l' m m' : List Value} (r : LRel N ρ h l l') (s : LRel N ρ h m m') : LRel N ρ h (l ++ m) (l' ++ m') := by
  refine ⟨by simp [r.1, s.1], fun i a b h1 h2 => ?_⟩
  rw [List.getElem?_append] at h1 h2
  rw [r.1] at h1
  split at h1
  · rename_i hlt
    rw [if_pos hlt] at h2
    exact r.2 i a b h1 h2
  · rename_i hlt
    rw [if_neg hlt] at h2
    exact s.2 _ a b h1 h2
theorem LRel.take {N : Nat} {ρ : Nat → RB} {h : Array Obj} {l l' : List Value} (r : LRel N ρ h l l') (n : Nat) : LRel N ρ h (l.take n) (l'.take n) := by
  refine ⟨by simp [r.1], fun i a b h1 h2 => ?_⟩
  rw [List.getElem?_take] at h1 h2
  split at h1
  · rename_i hlt
    rw [if_pos hlt] at h2
    exact r.2 i a b h1 h2
  · simp at h1
theorem LRel.drop {N : Nat} {ρ : Nat → RB} {h : Array Obj} {l l' : List Value} (r : LRel N ρ h l l') (n : Nat) : LRel N ρ h (l.drop n) (l'.drop n) := by
  refine ⟨by simp [r.1], fun i a b h1 h2 => ?_⟩
  rw [List.getElem?_drop] at h1 h2
  exact r.2 _ a b h1 h2
theorem LRel.seg {N : Nat} {ρ : Nat → RB} {h : Array Obj} {l l' vs vs' : List Value} (r : LRel N ρ h l l') (s : LRel N ρ h vs vs') (off : Nat) : LRel N ρ h (setSeg l off vs) (setSeg l' off vs') := by
  unfold setSeg
  rw [s.1]
  exact ((r.take _).app s).app (r.drop _)
theorem LRel.ofSc0 {N : Nat} {ρ : Nat → RB} {h : Array Obj} {l : List Value} (hs : l.all isSc0 = true) : LRel N ρ h l l := by
  refine ⟨rfl, fun i a b h1 h2 => ?_⟩
  rw [h1] at h2
  obtain rfl := Option.some.inj h2
  exact .ofSc0 (List.all_eq_true.1 hs _ (List.mem_of_getElem? h1))
theorem LRel.agg {N : Nat} {ρ : Nat → RB} {h : Array Obj} {l l' : List Value} (r : LRel N ρ h l l') : VRel N ρ h (.agg l.toArray) (.agg l'.toArray) :=
  .agg _ _ (by simpa using r.1) fun i v v' h1 h2 => r.2 i v v' (by simpa using h1) (by simpa using h2)
theorem VRel.cells {N : Nat} {ρ : Nat → RB} {h : Array Obj} {v v' : Value} (r : VRel N ρ h v v') : LRel N ρ h v.cells.toList v'.cells.toList := by
  cases r with
  | agg cs cs' hs hc => exact ⟨by simpa [Value.cells] using hs, fun i a b h1 h2 => hc i a b (by simpa [Value.cells] using h1) (by simpa [Value.cells] using h2)⟩
  | bool b => exact .cons (.bool b) (.nil _ _ _)
  | int k n => exact .cons (.int k n) (.nil _ _ _)
  | float k n => exact .cons (.float k n) (.nil _ _ _)
  | string s => exact .cons (.string s) (.nil _ _ _)
  | nilIface => exact .cons .nilIface (.nil _ _ _)
  | nilFunc => exact .cons .nilFunc (.nil _ _ _)
  | ptrNil => exact .cons .ptrNil (.nil _ _ _)
  | ptr id off g a h1 h2 h3 => exact .cons (.ptr id off g a h1 h2 h3) (.nil _ _ _)
  | sliceNil => exact .cons .sliceNil (.nil _ _ _)
  | slice id off g n c c' a h1 h2 h3 h4 => exact .cons (.slice id off g n c c' a h1 h2 h3 h4) (.nil _ _ _)
  | tuple cs cs' hs hc => exact .cons (.tuple cs cs' hs hc) (.nil _ _ _)
  | iface t v v' hv => exact .cons (.iface t v v' hv) (.nil _ _ _)
  | func f a b c d e g i j => exact .cons (.func f a b c d e g i j) (.nil _ _ _)
  | marker a b c d e f g i j k l m n => exact .cons (.marker a b c d e f g i j k l m n) (.nil _ _ _)

end Go.Lev

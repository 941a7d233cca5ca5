/- What operations on the world do to the relation. -/
import Derived.Test.YtcaogimdpcaohaaDoorLev2
set_option linter.unusedVariables false
namespace Go.Lev
open Go Go.RowKit

theorem Rel.boxBlk {w0 w : World} {ρ : Nat → RB} {H : Heap} (r : Rel w0 ρ H w) {id : Nat} {b : Box} (hb : H[id]? = some b) : (ρ id).blk < w.heap.size := by
  obtain ⟨cs, e, fr, h1, _⟩ := (r.box id b hb).cells
  exact (Array.getElem?_eq_some_iff.1 h1).1

theorem Rel.blkLt {w0 w : World} {ρ : Nat → RB} {H : Heap} (r : Rel w0 ρ H w) {id : Nat} (hid : id < H.length) : (ρ id).blk < w.heap.size :=
  r.boxBlk (List.getElem?_eq_getElem hid)

/-- One box has changed (or moved), all else is as it was. -/
theorem Rel.change {w0 w w' : World} {ρ : Nat → RB} {H : Heap} (r : Rel w0 ρ H w) {id : Nat} {b : Box} (hb : H[id]? = some b) (hro : b.ro = false) (b' : Box) (hro' : b'.ro = false) (n : RB)
    (hgen : n.gen = b'.gen) (hrow : n.row = b'.row) (hge : b.gen ≤ b'.gen) (hsame : b'.gen = b.gen → n = ρ id)
    (hblk : n.blk = (ρ id).blk ∨ (w.heap.size ≤ n.blk))
    (hos : w'.os = w.os) (htape : w'.tape = w.tape) (hout : w'.output = w.output) (hsize : w.heap.size ≤ w'.heap.size)
    (hframe : ∀ k, k < w.heap.size → k ≠ (ρ id).blk → w'.heap[k]? = w.heap[k]?)
    (cs : Array Value) (e : TypeId) (hcs : w'.heap[n.blk]? = some (.cells cs e (0, 0))) (hcsz : cs.size = n.size)
    (hcells : ∀ (i : Nat) (v : Value), b'.cells[i]? = some v → ∃ v', cs[n.base + i]? = some v' ∧ VRel H.length ρ w.heap v v') :
    ∃ ρ', ρ' id = n ∧ (∀ j, j ≠ id → ρ' j = ρ j) ∧ Rel w0 ρ' (H.set id b') w' ∧ Ext H.length ρ w.heap (H.set id b').length ρ' w'.heap := by
  have hid : id < H.length := (List.getElem?_eq_some_iff.1 hb).1
  have hB := r.box id b hb
  obtain ⟨ρ', hnew, hold⟩ : ∃ ρ' : Nat → RB, ρ' id = n ∧ ∀ j, j ≠ id → ρ' j = ρ j := ⟨fun j => if j = id then n else ρ j, by simp, fun j hj => by simp [hj]⟩
  have x : Ext H.length ρ w.heap (H.set id b').length ρ' w'.heap := by
    refine ⟨by simp, fun j hj => ?_, fun j hj => ?_, hsize, fun k hk hf => ?_⟩
    · by_cases hji : j = id
      · subst hji
        rw [hnew]
        refine ⟨by rw [hB.gen, hgen]; exact hge, fun h => hsame ?_⟩
        rw [hgen, hB.gen] at h
        exact h
      · rw [hold j hji]
        exact ⟨Nat.le_refl _, fun _ => rfl⟩
    · simp only [List.length_set] at hj
      by_cases hji : j = id
      · subst hji
        rw [hnew]
        rcases hblk with h | h
        · exact .inl ⟨hj, h⟩
        · exact .inr h
      · rw [hold j hji]
        exact .inl ⟨hj, rfl⟩
    · exact hframe k hk fun h => hf id hid h.symm
  refine ⟨ρ', hnew, hold, ⟨?_, fun j c hj => ?_, fun i j c d hi hj hij hcd => ?_⟩, x⟩
  · have hb0 := r.below
    refine ⟨hos.trans hb0.os, htape.trans hb0.tape, hout.trans hb0.output, Nat.le_trans hb0.size hsize, fun k hk => ?_⟩
    have hf := hB.fresh hro
    rw [hframe k (Nat.lt_of_lt_of_le hk hb0.size) (by omega)]
    exact hb0.block k hk
  · rw [List.getElem?_set] at hj
    split at hj
    · rename_i hji
      subst hji
      obtain rfl := Option.some.inj hj
      rw [List.length_set]
      rw [List.length_set] at x
      refine ⟨by rw [hnew]; exact hgen, by rw [hnew]; exact hrow, fun _ => ?_, cs, e, (0, 0), by rw [hnew]; exact hcs, fun _ => rfl, by rw [hnew]; exact hcsz, fun i v hv => ?_⟩
      · rw [hnew]
        rcases hblk with h | h
        · rw [h]; exact hB.fresh hro
        · exact Nat.le_trans r.below.size h
      · obtain ⟨v', h1, h2⟩ := hcells i v hv
        exact ⟨v', by rw [hnew]; exact h1, h2.mono x⟩
    · rename_i hji
      have hji' : j ≠ id := fun h => hji h.symm
      have hC := r.box j c hj
      obtain ⟨cs1, e1, fr1, h1, h2, h3, h4⟩ := hC.cells
      refine ⟨by rw [hold j hji']; exact hC.gen, by rw [hold j hji']; exact hC.row, fun h => by rw [hold j hji']; exact hC.fresh h, cs1, e1, fr1, ?_, h2, by rw [hold j hji']; exact h3, fun i v hv => ?_⟩
      · rw [hold j hji', hframe _ (r.boxBlk hj) (r.sep j id c b hj hb hji' (.inr hro)), h1]
      · obtain ⟨v', k1, k2⟩ := h4 i v hv
        exact ⟨v', by rw [hold j hji']; exact k1, k2.mono x⟩
  · rw [List.getElem?_set] at hi hj
    by_cases h1 : id = i
    · subst h1
      have h2 : j ≠ id := fun h => hij h.symm
      rw [if_neg hij] at hj
      rw [hnew, hold j h2]
      rcases hblk with h | h
      · rw [h]; exact r.sep id j b d hb hj hij (.inl hro)
      · have := r.boxBlk hj; omega
    · rw [if_neg h1] at hi
      have h1' : i ≠ id := fun h => h1 h.symm
      by_cases h2 : id = j
      · subst h2
        rw [hnew, hold i h1']
        rcases hblk with h | h
        · rw [h]; exact r.sep i id c b hi hb hij (.inr hro)
        · have := r.boxBlk hi; omega
      · rw [if_neg h2] at hj
        have h2' : j ≠ id := fun h => h2 h.symm
        rw [hold i h1', hold j h2']
        exact r.sep i j c d hi hj hij hcd

/-- A new box in a new block. -/
theorem Rel.push {w0 w : World} {ρ : Nat → RB} {H : Heap} (r : Rel w0 ρ H w) (b : Box) (hgen : b.gen = 0) (hro : b.ro = false) (cs : Array Value) (e : TypeId)
    (hcells : ∀ (i : Nat) (v : Value), b.cells[i]? = some v → ∃ v', cs[i]? = some v' ∧ VRel H.length ρ w.heap v v') :
    ∃ ρ', ρ' H.length = ⟨w.heap.size, 0, cs.size, 0, b.row⟩ ∧ Rel w0 ρ' (H ++ [b]) (w.alloc (.cells cs e)) ∧ Ext H.length ρ w.heap (H ++ [b]).length ρ' (w.alloc (.cells cs e)).heap := by
  let ρ' : Nat → RB := fun j => if j = H.length then ⟨w.heap.size, 0, cs.size, 0, b.row⟩ else ρ j
  have hnew : ρ' H.length = ⟨w.heap.size, 0, cs.size, 0, b.row⟩ := by simp [ρ']
  have hold : ∀ j, j < H.length → ρ' j = ρ j := fun j hj => by
    have : ¬ j = H.length := by omega
    simp [ρ', this]
  have hheap : ∀ k, k < w.heap.size → (w.alloc (.cells cs e)).heap[k]? = w.heap[k]? := fun k hk => Below.heap_alloc w _ k hk
  have hlast : (w.alloc (.cells cs e)).heap[w.heap.size]? = some (.cells cs e (0, 0)) := by
    show (w.heap.push _)[w.heap.size]? = _
    simp
  have x : Ext H.length ρ w.heap (H ++ [b]).length ρ' (w.alloc (.cells cs e)).heap := by
    refine ⟨by simp, fun j hj => by rw [hold j hj]; exact ⟨Nat.le_refl _, fun _ => rfl⟩, fun j hj => ?_, by simp, fun k hk _ => hheap k hk⟩
    simp only [List.length_append, List.length_singleton] at hj
    by_cases h : j = H.length
    · subst h; rw [hnew]; exact .inr (Nat.le_refl _)
    · rw [hold j (by omega)]; exact .inl ⟨by omega, rfl⟩
  refine ⟨ρ', hnew, ⟨?_, fun j c hj => ?_, fun i j c d hi hj hij hcd => ?_⟩, x⟩
  · exact r.below.alloc r.below.size _
  · by_cases h : j < H.length
    · rw [List.getElem?_append_left h] at hj
      have hC := r.box j c hj
      obtain ⟨cs1, e1, fr1, h1, h2, h3, h4⟩ := hC.cells
      refine ⟨by rw [hold j h]; exact hC.gen, by rw [hold j h]; exact hC.row, fun k => by rw [hold j h]; exact hC.fresh k, cs1, e1, fr1, ?_, h2, by rw [hold j h]; exact h3, fun i v hv => ?_⟩
      · rw [hold j h, hheap _ (r.boxBlk hj), h1]
      · obtain ⟨v', k1, k2⟩ := h4 i v hv
        exact ⟨v', by rw [hold j h]; exact k1, k2.mono x⟩
    · rw [List.getElem?_append_right (by omega)] at hj
      have hj0 : j - H.length = 0 := by
        have := (List.getElem?_eq_some_iff.1 hj).1
        simp at this
        omega
      have hje : j = H.length := by omega
      subst hje
      simp at hj
      subst hj
      refine ⟨by rw [hnew]; exact hgen.symm, by rw [hnew], fun _ => by rw [hnew]; exact r.below.size, cs, e, (0, 0), by rw [hnew]; exact hlast, fun _ => rfl, by rw [hnew], fun i v hv => ?_⟩
      obtain ⟨v', k1, k2⟩ := hcells i v hv
      exact ⟨v', by rw [hnew]; simpa using k1, k2.mono x⟩
  · have key : ∀ j d, (H ++ [b])[j]? = some d → (j < H.length ∧ H[j]? = some d ∧ ρ' j = ρ j) ∨ (j = H.length ∧ d = b) := fun j d hj => by
      by_cases h : j < H.length
      · rw [List.getElem?_append_left h] at hj
        exact .inl ⟨h, hj, hold j h⟩
      · rw [List.getElem?_append_right (by omega)] at hj
        have hj0 : j - H.length = 0 := by
          have := (List.getElem?_eq_some_iff.1 hj).1
          simp at this
          omega
        rw [hj0] at hj
        simp at hj
        exact .inr ⟨by omega, hj.symm⟩
    rcases key i c hi with ⟨i1, i2, i3⟩ | ⟨i1, i2⟩ <;> rcases key j d hj with ⟨j1, j2, j3⟩ | ⟨j1, j2⟩
    · rw [i3, j3]; exact r.sep i j c d i2 j2 hij hcd
    · subst j1; rw [i3, hnew]; have := r.boxBlk i2; simp; omega
    · subst i1; rw [j3, hnew]; have := r.boxBlk j2; simp; omega
    · omega

theorem Rel.world {w0 w w' : World} {ρ : Nat → RB} {H : Heap} (r : Rel w0 ρ H w) (hh : w'.heap = w.heap) (hos : w'.os = w.os) (ht : w'.tape = w.tape) (ho : w'.output = w.output) : Rel w0 ρ H w' := by
  refine ⟨⟨hos.trans r.below.os, ht.trans r.below.tape, ho.trans r.below.output, by rw [hh]; exact r.below.size, fun k hk => by rw [hh]; exact r.below.block k hk⟩, fun id b hb => ?_, r.sep⟩
  rw [hh]
  exact r.box id b hb

/-- The cells of a box are in the world. -/
theorem Rel.cell {w0 w : World} {ρ : Nat → RB} {H : Heap} (r : Rel w0 ρ H w) {id : Nat} {b : Box} (hb : H[id]? = some b) {i : Nat} {v : Value} (hv : b.cells[i]? = some v) :
    ∃ v', w.cell? ⟨(ρ id).blk, (ρ id).base + i, none⟩ = some v' ∧ VRel H.length ρ w.heap v v' := by
  obtain ⟨cs, e, fr, h1, h2, h3, h4⟩ := (r.box id b hb).cells
  obtain ⟨v', k1, k2⟩ := h4 i v hv
  exact ⟨v', by simp [World.cell?, h1, k1], k2⟩

theorem rd1_some {H : Heap} {a : Addr} {v : Value} (h : rd1 H a = some v) : ∃ b, H[a.block]? = some b ∧ a.spot = some b.gen ∧ b.cells[a.off]? = some v := by
  unfold rd1 at h
  cases hb : H[a.block]? with
  | none => rw [hb] at h; simp at h
  | some b =>
    rw [hb] at h
    simp only at h
    split at h
    · exact ⟨b, rfl, by assumption, h⟩
    · simp at h

theorem rdN_some {H : Heap} {a : Addr} {n : Nat} {l : List Value} (h : rdN H a n = some l) :
    ∃ b, H[a.block]? = some b ∧ a.spot = some b.gen ∧ a.off + n ≤ b.cells.length ∧ l = (b.cells.drop a.off).take n := by
  unfold rdN at h
  cases hb : H[a.block]? with
  | none => rw [hb] at h; simp at h
  | some b =>
    rw [hb] at h
    simp only at h
    split at h
    · rename_i hc
      exact ⟨b, rfl, hc.1, hc.2, (Option.some.inj h).symm⟩
    · simp at h

/-- A pointer that is good relates to the place. -/
theorem VRel.ptrAt {N : Nat} {ρ : Nat → RB} {h : Array Obj} {a : Addr} {v' : Value} (r : VRel N ρ h (.pointer (some a)) v') (hg : a.spot = some (ρ a.block).gen) :
    a.block < N ∧ v' = .pointer (some ⟨(ρ a.block).blk, (ρ a.block).base + a.off, none⟩) := by
  cases r with
  | ptr id off g a' hid hg' ha => 
    simp at hg
    rw [ha hg]
    exact ⟨hid, rfl⟩

theorem Rel.rd1 {w0 w : World} {ρ : Nat → RB} {H : Heap} (r : Rel w0 ρ H w) {a : Addr} {v x : Value} (h : rd1 H a = some v) (hx : VRel H.length ρ w.heap (.pointer (some a)) x) :
    ∃ v' : Value, x = .pointer (some ⟨(ρ a.block).blk, (ρ a.block).base + a.off, none⟩) ∧ w.cell? ⟨(ρ a.block).blk, (ρ a.block).base + a.off, none⟩ = some v' ∧ VRel H.length ρ w.heap v v' := by
  obtain ⟨b, hb, hs, hc⟩ := rd1_some h
  obtain ⟨_, hx'⟩ := hx.ptrAt (by rw [(r.box _ b hb).gen]; exact hs)
  obtain ⟨v', h1, h2⟩ := r.cell hb hc
  exact ⟨v', hx', h1, h2⟩

/-- n cells of a box, in the world. -/
theorem Rel.cellsAt {w0 w : World} {ρ : Nat → RB} {H : Heap} (r : Rel w0 ρ H w) {id : Nat} {b : Box} (hb : H[id]? = some b) (off n : Nat) (hn : off + n ≤ b.cells.length) :
    ∃ l' : List Value, l'.length = n ∧ (∀ (j : Nat) (v : Value), l'[j]? = some v → w.cell? ⟨(ρ id).blk, (ρ id).base + off + j, none⟩ = some v) ∧ LRel H.length ρ w.heap ((b.cells.drop off).take n) l' := by
  obtain ⟨cs, e, fr, h1, h2, h3, h4⟩ := (r.box id b hb).cells
  have hlen : (ρ id).base + off + n ≤ cs.size ∨ n = 0 := by
    rcases Nat.eq_zero_or_pos n with h | h
    · exact .inr h
    · obtain ⟨v', k1, _⟩ := h4 (off + n - 1) _ (List.getElem?_eq_getElem (by omega))
      have := (Array.getElem?_eq_some_iff.1 k1).1
      exact .inl (by omega)
  refine ⟨(cs.toList.drop ((ρ id).base + off)).take n, ?_, fun j v hj => ?_, ?_, fun i v v' hi hi' => ?_⟩
  · rcases hlen with h | h
    · simp; omega
    · simp [h]
  · rw [List.getElem?_take] at hj
    split at hj
    · rw [List.getElem?_drop] at hj
      simp only [World.cell?, h1]
      simpa using hj
    · simp at hj
  · rcases hlen with h | h
    · simp; omega
    · simp [h]
  · rw [List.getElem?_take] at hi hi'
    split at hi
    · rename_i hlt
      rw [if_pos hlt, List.getElem?_drop] at hi'
      rw [List.getElem?_drop] at hi
      obtain ⟨u, k1, k2⟩ := h4 _ _ hi
      have : cs[(ρ id).base + off + i]? = some v' := by simpa using hi'
      rw [← Nat.add_assoc, this] at k1
      obtain rfl := Option.some.inj k1
      exact k2
    · simp at hi

theorem wrN_some {fl : Nat} {H H' : Heap} {a : Addr} {vs : List Value} (h : wrN fl H a vs = some H') :
    ∃ b, H[a.block]? = some b ∧ a.spot = some b.gen ∧ b.ro = false ∧ fl ≤ a.block ∧ a.off + vs.length ≤ b.cells.length ∧ vs.all Value.oneCell' = true ∧ H' = H.set a.block { b with cells := setSeg b.cells a.off vs } := by
  unfold wrN at h
  cases hb : H[a.block]? with
  | none => rw [hb] at h; simp at h
  | some b =>
    rw [hb] at h
    simp only at h
    split at h
    · rename_i hc
      exact ⟨b, rfl, hc.1, hc.2.1, hc.2.2.1, hc.2.2.2.1, hc.2.2.2.2, (Option.some.inj h).symm⟩
    · simp at h

theorem setSeg_get (l : List Value) (off : Nat) (vs : List Value) (hl : off + vs.length ≤ l.length) (i : Nat) :
    (setSeg l off vs)[i]? = if off ≤ i ∧ i < off + vs.length then vs[i - off]? else l[i]? := by
  unfold setSeg
  by_cases h1 : i < off
  · rw [if_neg (by omega), List.append_assoc, List.getElem?_append_left (by simp; omega), List.getElem?_take, if_pos h1]
  · by_cases h2 : i < off + vs.length
    · rw [if_pos ⟨by omega, h2⟩, List.append_assoc, List.getElem?_append_right (by simp; omega), List.getElem?_append_left (by simp; omega)]
      simp only [List.length_take]
      rw [Nat.min_eq_left (by omega)]
    · rw [if_neg (by omega), List.getElem?_append_right (by simp; omega), List.getElem?_drop]
      congr 1
      simp
      omega

theorem heap_setRow_other (w : World) (g : Nat) (cs : Array Value) (k : Nat) (h : k ≠ g) : (w.setRow g cs).heap[k]? = w.heap[k]? := by
  simp only [World.setRow, Array.getElem?_modify]
  rw [if_neg (by omega)]

/-- Cells are stored. -/
theorem Rel.wrN {w0 w : World} {P : Program} {ρ : Nat → RB} {H H' : Heap} (r : Rel w0 ρ H w) {fl : Nat} {a : Addr} {vs vs' : List Value} {x : Value} (h : wrN fl H a vs = some H')
    (hx : VRel H.length ρ w.heap (.pointer (some a)) x) (hv : LRel H.length ρ w.heap vs vs') :
    ∃ w' ρ', x = .pointer (some ⟨(ρ a.block).blk, (ρ a.block).base + a.off, none⟩) ∧ (storeCells ⟨(ρ a.block).blk, (ρ a.block).base + a.off, none⟩ vs').run P w = .ok () w' ∧ Rel w0 ρ' H' w' ∧ Ext H.length ρ w.heap H'.length ρ' w'.heap := by
  obtain ⟨b, hb, hs, hro, hfl, hle, hone, rfl⟩ := wrN_some h
  have hB := r.box _ b hb
  obtain ⟨_, hx'⟩ := hx.ptrAt (by rw [hB.gen]; exact hs)
  obtain ⟨cs, e, fr, h1, h2, h3, h4⟩ := hB.cells
  obtain rfl := h2 hro
  have hone' : ∀ v ∈ vs', v.oneCell' = true := fun v hm => by
    obtain ⟨i, hi, rfl⟩ := List.getElem_of_mem hm
    have hi2 : i < vs.length := by have := hv.1; omega
    rw [(hv.2 i _ _ (List.getElem?_eq_getElem hi2) (List.getElem?_eq_getElem hi)).oneCell]
    exact List.all_eq_true.1 hone _ (List.getElem_mem hi2)
  have hfit : (ρ a.block).base + a.off + vs'.length ≤ cs.size ∨ vs'.length = 0 := by
    rcases Nat.eq_zero_or_pos vs'.length with h | h
    · exact .inr h
    · have hvl := hv.1
      obtain ⟨v', k1, _⟩ := h4 (a.off + vs.length - 1) _ (List.getElem?_eq_getElem (by omega))
      have := (Array.getElem?_eq_some_iff.1 k1).1
      exact .inl (by omega)
  rcases hfit with hfit | hnil
  · have hst := run_storeCells_at (P := P) (ρ a.block).blk ((ρ a.block).base + a.off) e vs' 0 cs w h1 (by simpa using hfit) hone'
    simp only [Nat.add_zero] at hst
    have hset : cs.toList.take ((ρ a.block).base + a.off) ++ vs' ++ cs.toList.drop ((ρ a.block).base + a.off + vs'.length) = setSeg cs.toList ((ρ a.block).base + a.off) vs' := rfl
    rw [hset] at hst
    have hsz : (setSeg cs.toList ((ρ a.block).base + a.off) vs').toArray.size = (ρ a.block).size := by
      rw [← h3]
      simp [setSeg]
      omega
    have hcl : ∀ (i : Nat) (v : Value), (setSeg b.cells a.off vs)[i]? = some v → ∃ v', (setSeg cs.toList ((ρ a.block).base + a.off) vs').toArray[(ρ a.block).base + i]? = some v' ∧ VRel H.length ρ w.heap v v' := by
      intro i v hv'
      rw [setSeg_get _ _ _ hle] at hv'
      have hvl := hv.1
      have e1 : (setSeg cs.toList ((ρ a.block).base + a.off) vs').toArray[(ρ a.block).base + i]? = if (ρ a.block).base + a.off ≤ (ρ a.block).base + i ∧ (ρ a.block).base + i < (ρ a.block).base + a.off + vs'.length then vs'[(ρ a.block).base + i - ((ρ a.block).base + a.off)]? else cs.toList[(ρ a.block).base + i]? := by
        rw [List.getElem?_toArray, setSeg_get _ _ _ (by simpa using hfit)]
      split at hv'
      · rename_i hc
        rw [e1, if_pos (by omega)]
        have e2 : (ρ a.block).base + i - ((ρ a.block).base + a.off) = i - a.off := by omega
        rw [e2]
        obtain ⟨u, k1, k2⟩ := hv.get hv'
        exact ⟨u, k1, k2⟩
      · rename_i hc
        rw [e1, if_neg (by omega)]
        obtain ⟨u, k1, k2⟩ := h4 i v hv'
        exact ⟨u, by simpa using k1, k2⟩
    obtain ⟨ρ', _, _, R, X⟩ := r.change hb hro { b with cells := setSeg b.cells a.off vs } hro (ρ a.block) hB.gen hB.row (Nat.le_refl _) (fun _ => rfl) (.inl rfl) (w' := w.setRow (ρ a.block).blk (setSeg cs.toList ((ρ a.block).base + a.off) vs').toArray) rfl rfl rfl (by simp [World.setRow]) (fun k _ hk => heap_setRow_other w _ _ k hk)
      (setSeg cs.toList ((ρ a.block).base + a.off) vs').toArray e (setRow_heap w _ cs _ e (0, 0) h1) hsz hcl
    exact ⟨_, ρ', hx', hst, R, X⟩
  · have hnil' : vs' = [] := List.eq_nil_of_length_eq_zero hnil
    subst hnil'
    have hvs : vs = [] := List.eq_nil_of_length_eq_zero (by have := hv.1; simpa using this)
    subst hvs
    have e0 : setSeg b.cells a.off [] = b.cells := by simp [setSeg]
    obtain ⟨ρ', _, _, R, X⟩ := r.change hb hro { b with cells := setSeg b.cells a.off [] } hro (ρ a.block) hB.gen hB.row (Nat.le_refl _) (fun _ => rfl) (.inl rfl) (w' := w) rfl rfl rfl (Nat.le_refl _) (fun k _ hk => rfl) cs e h1 h3 (by simp only [e0]; exact h4)
    exact ⟨w, ρ', hx', rfl, R, X⟩

end Go.Lev

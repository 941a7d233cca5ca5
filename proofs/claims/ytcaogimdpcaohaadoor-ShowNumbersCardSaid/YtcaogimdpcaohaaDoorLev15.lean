/- Functions that leave the memory as it was: what they made is let go, but for slices that they hand back. Tables. -/
import Derived.Test.YtcaogimdpcaohaaDoorLev14
set_option linter.unusedVariables false
set_option linter.unusedSimpArgs false
namespace Go.Lev
open Go Go.RowKit

theorem shrink {w0 w w' : World} {ρ ρ' : Nat → RB} {H H' : Heap} (R : Rel w0 ρ H w) (R' : Rel w0 ρ' H' w') (x : Ext H.length ρ w.heap H'.length ρ' w'.heap) (hk : ∀ (id : Nat) (b : Box), H[id]? = some b → H'[id]? = some b) :
    Rel w0 ρ H w' ∧ Ext H.length ρ w.heap H.length ρ w'.heap ∧ ∀ id, id < H.length → ρ' id = ρ id := by
  have hρ : ∀ id, id < H.length → ρ' id = ρ id := fun id hid => by
    have hb := List.getElem?_eq_getElem hid
    refine (x.gen id hid).2 ?_
    rw [(R'.box id _ (hk id _ hb)).gen, (R.box id _ hb).gen]
  refine ⟨⟨R'.below, fun id b hb => ?_, fun i j b c hi hj hij hr => ?_⟩, ?_, hρ⟩
  · have hid := (List.getElem?_eq_some_iff.1 hb).1
    have h1 := R.box id b hb
    have h2 := R'.box id b (hk id b hb)
    refine ⟨h1.gen, h1.row, h1.fresh, ?_⟩
    obtain ⟨cs, e, fr, q1, q2, q3, q4⟩ := h2.cells
    obtain ⟨cs0, e0, fr0, p1, p2, p3, p4⟩ := h1.cells
    rw [hρ id hid] at q1 q3 q4
    refine ⟨cs, e, fr, q1, q2, q3, fun i v hv => ?_⟩
    obtain ⟨v', k1, k2⟩ := q4 i v hv
    obtain ⟨v0, j1, j2⟩ := p4 i v hv
    exact ⟨v', k1, j2.transfer x.len hρ k2⟩
  · exact R.sep i j b c hi hj hij hr
  · exact ⟨Nat.le_refl _, fun _ _ => ⟨Nat.le_refl _, fun _ => rfl⟩, fun id hid => .inl ⟨hid, rfl⟩, x.size, x.frame⟩

theorem VRel.grow {N N' : Nat} {σ σ' ρ' : Nat → RB} {h : Array Obj} {v a : Value} (r : VRel N σ h v a) (s : VRel N' ρ' h v a) (hσ : ∀ j, j < N → σ' j = σ j) {id : Nat} (hid : id < N') (hb : (σ' N).blk = (ρ' id).blk) : VRel (N + 1) σ' h v a := by
  induction r with
  | bool x => exact .bool _
  | int k n => exact .int _ _
  | float k n => exact .float _ _
  | string x => exact .string _
  | nilIface => exact .nilIface
  | nilFunc => exact .nilFunc
  | ptrNil => exact .ptrNil
  | ptr j off g a hj hg ha =>
    refine .ptr j off g a (by omega) ?_ ?_ <;> rw [hσ j hj] <;> assumption
  | sliceNil => exact .sliceNil
  | slice j off g n c c' a hj hg hn ha =>
    refine .slice j off g n c c' a (by omega) ?_ hn ?_ <;> rw [hσ j hj] <;> assumption
  | agg cs cs' hs hc ih =>
    cases s with
    | agg _ _ hs' hc' => exact .agg cs cs' hs fun i v v' h1 h2 => ih i v v' h1 h2 (hc' i v v' h1 h2)
  | tuple cs cs' hs hc ih =>
    cases s with
    | tuple _ _ hs' hc' => exact .tuple cs cs' hs fun i v v' h1 h2 => ih i v v' h1 h2 (hc' i v v' h1 h2)
  | iface t v v' hv ih =>
    cases s with
    | iface _ _ _ hv' => exact .iface t v v' (ih hv')
  | func f fs fs' cs cs' hs hf hs' hc ih1 ih2 =>
    cases s with
    | func _ _ _ _ _ gs gf gs' gc => exact .func f fs fs' cs cs' hs (fun i v v' h1 h2 => ih1 i v v' h1 h2 (gf i v v' h1 h2)) hs' fun i v v' h1 h2 => ih2 i v v' h1 h2 (gc i v v' h1 h2)
  | marker cs cs' k n c e fr hk hn hf hh hs hc ih =>
    cases s with
    | marker _ cs'' _ _ _ e' fr' hk' hn' hf' hh' hs' hc' =>
      rw [hh] at hh'
      injection hh' with hh'
      injection hh' with q1 q2 q3
      subst q1
      refine .marker cs cs' k n c e fr hk hn (fun j hj => ?_) hh hs fun i v v' h1 h2 => ih i v v' h1 h2 (hc' i v v' h1 h2)
      by_cases hjn : j = N
      · subst hjn; rw [hb]; exact hf' id hid
      · rw [hσ j (by omega)]; exact hf j (by omega)

/-- A box of another telling is taken over. -/
theorem adopt {w0 w : World} {σ ρ' : Nat → RB} {A H' : Heap} (R : Rel w0 σ A w) (R' : Rel w0 ρ' H' w) {id off n : Nat} {b : Box} (hb : H'[id]? = some b) (hro : b.ro = false) (hfree : ∀ j, j < A.length → (σ j).blk ≠ (ρ' id).blk)
    (hle : off + n ≤ b.cells.length) (hsc : ((b.cells.drop off).take n).all isSc0 = true)
    (hA : ∀ (j : Nat) (c : Box), A[j]? = some c → c.cells.all isSc0 = true ∨ (H'[j]? = some c ∧ σ j = ρ' j)) :
    ∃ σ', σ' A.length = ⟨(ρ' id).blk, (ρ' id).base + off, (ρ' id).size, 0, b.row⟩ ∧ (∀ j, j < A.length → σ' j = σ j) ∧ Rel w0 σ' (A ++ [{ cells := (b.cells.drop off).take n, gen := 0, row := b.row }]) w := by
  obtain ⟨σ', hnew, hold⟩ : ∃ σ' : Nat → RB, σ' A.length = ⟨(ρ' id).blk, (ρ' id).base + off, (ρ' id).size, 0, b.row⟩ ∧ ∀ j, j < A.length → σ' j = σ j := by
    refine ⟨fun j => if j = A.length then ⟨(ρ' id).blk, (ρ' id).base + off, (ρ' id).size, 0, b.row⟩ else σ j, by simp, fun j hj => ?_⟩
    have : ¬ j = A.length := by omega
    simp [this]
  refine ⟨σ', hnew, hold, ?_⟩
  have hB := R'.box id b hb
  have hid := (List.getElem?_eq_some_iff.1 hb).1
  have key : ∀ j d, (A ++ [{ cells := (b.cells.drop off).take n, gen := 0, row := b.row }] : Heap)[j]? = some d → (j < A.length ∧ A[j]? = some d) ∨ (j = A.length ∧ d = { cells := (b.cells.drop off).take n, gen := 0, row := b.row }) := fun j d hj => by
    by_cases h : j < A.length
    · rw [List.getElem?_append_left h] at hj
      exact .inl ⟨h, hj⟩
    · rw [List.getElem?_append_right (by omega)] at hj
      have hj0 : j - A.length = 0 := by
        have := (List.getElem?_eq_some_iff.1 hj).1
        simp at this
        omega
      rw [hj0] at hj
      simp at hj
      exact .inr ⟨by omega, hj.symm⟩
  refine ⟨R.below, fun j c hj => ?_, fun i j c d hi hj hij hr => ?_⟩
  · simp only [List.length_append, List.length_singleton]
    rcases key j c hj with ⟨h1, h2⟩ | ⟨rfl, rfl⟩
    · have hC := R.box j c h2
      obtain ⟨cs, e, fr, q1, q2, q3, q4⟩ := hC.cells
      refine ⟨by rw [hold j h1]; exact hC.gen, by rw [hold j h1]; exact hC.row, fun k => by rw [hold j h1]; exact hC.fresh k, cs, e, fr, by rw [hold j h1]; exact q1, q2, by rw [hold j h1]; exact q3, fun i v hv => ?_⟩
      obtain ⟨v', k1, k2⟩ := q4 i v hv
      refine ⟨v', by rw [hold j h1]; exact k1, ?_⟩
      rcases hA j c h2 with hs | ⟨hs, he⟩
      · have hv0 : isSc0 v = true := List.all_eq_true.1 hs _ (List.mem_of_getElem? hv)
        rw [k2.sc0 hv0]
        exact .ofSc0 hv0
      · obtain ⟨cs2, e2, fr2, p1, p2, p3, p4⟩ := (R'.box j c hs).cells
        rw [← he, q1] at p1
        injection p1 with p1
        injection p1 with p1
        subst p1
        obtain ⟨v2, j1, j2⟩ := p4 i v hv
        rw [← he, k1] at j1
        obtain rfl := Option.some.inj j1
        exact k2.grow j2 hold hid (by rw [hnew])
    · obtain ⟨cs, e, fr, q1, q2, q3, q4⟩ := hB.cells
      refine ⟨by rw [hnew], by rw [hnew], fun _ => by rw [hnew]; exact hB.fresh hro, cs, e, fr, by rw [hnew]; exact q1, fun _ => q2 hro, by rw [hnew]; exact q3, fun i v hv => ?_⟩
      have hv0 : isSc0 v = true := List.all_eq_true.1 hsc _ (List.mem_of_getElem? hv)
      rw [List.getElem?_take] at hv
      split at hv
      · rw [List.getElem?_drop] at hv
        obtain ⟨v', k1, k2⟩ := q4 _ v hv
        refine ⟨v', by rw [hnew]; simpa [Nat.add_assoc] using k1, ?_⟩
        rw [k2.sc0 hv0]
        exact .ofSc0 hv0
      · simp at hv
  · rcases key i c hi with ⟨h1, h2⟩ | ⟨rfl, rfl⟩ <;> rcases key j d hj with ⟨h3, h4⟩ | ⟨rfl, rfl⟩
    · rw [hold i h1, hold j h3]; exact R.sep i j c d h2 h4 hij hr
    · rw [hold i h1, hnew]; exact hfree i h1
    · rw [hold j h3, hnew]; exact fun h => hfree j h3 h.symm
    · omega

def gcOne (N : Nat) (H' : Heap) (acc : Heap) (used : List Nat) (v : Value) : Option (Value × Heap × List Nat) :=
  if isSc v then some (v, acc, used) else
  match v with
  | .slice (some a) n c =>
    if used.contains a.block || decide (a.block < N) then none else
    match H'[a.block]?, rdN H' a (n * c) with
    | some b, some cells => if cells.all isSc0 && b.row == c && !b.ro then some (.slice (some ⟨acc.length, 0, some 0⟩) n c, acc ++ [{ cells := cells, gen := 0, row := c }], a.block :: used) else none
    | _, _ => none
  | _ => none

def gcL (N : Nat) (H' : Heap) : Heap → List Nat → List Value → Option (List Value × Heap)
  | acc, _, [] => some ([], acc)
  | acc, used, v :: l => match gcOne N H' acc used v with
    | some (v', acc', used') => match gcL N H' acc' used' l with
      | some (l', acc'') => some (v' :: l', acc'')
      | none => none
    | none => none

def gcRes (H H' : Heap) (v : Value) : Option (Value × Heap) :=
  match v with
  | .tuple vs => match gcL H.length H' H [] vs.toList with
    | some (l, acc) => some (.tuple l.toArray, acc)
    | none => none
  | v => match gcOne H.length H' H [] v with
    | some (v, acc, _) => some (v, acc)
    | none => none

/-- What has been taken over so far. -/
structure Kept (w0 : World) (H : Heap) (ρ' : Nat → RB) (H' : Heap) (w' : World) (acc : Heap) (used : List Nat) (σ : Nat → RB) : Prop where
  rel : Rel w0 σ acc w'
  pre : H.length ≤ acc.length ∧ ∀ (id : Nat) (b : Box), H[id]? = some b → acc[id]? = some b
  old : ∀ id, id < H.length → σ id = ρ' id
  new : ∀ j, H.length ≤ j → j < acc.length → (∃ id, id ∈ used ∧ H.length ≤ id ∧ id < H'.length ∧ (σ j).blk = (ρ' id).blk) ∧ ∀ c, acc[j]? = some c → c.cells.all isSc0 = true

theorem gcOne_sound {w0 w' : World} {H H' acc acc' : Heap} {ρ' σ : Nat → RB} {used used' : List Nat} {v v1 a : Value} (R' : Rel w0 ρ' H' w') (hsub : ∀ (id : Nat) (b : Box), H[id]? = some b → H'[id]? = some b)
    (K : Kept w0 H ρ' H' w' acc used σ) (h : gcOne H.length H' acc used v = some (v1, acc', used')) (hv : VRel H'.length ρ' w'.heap v a) :
    ∃ σ', Kept w0 H ρ' H' w' acc' used' σ' ∧ VRel acc'.length σ' w'.heap v1 a ∧ (isSc v1 = true ∨ ∃ ad n c, v1 = .slice (some ad) n c) ∧ acc.length ≤ acc'.length ∧ ∀ j, j < acc.length → σ' j = σ j := by
  unfold gcOne at h
  split at h
  · rename_i hs
    simp only [Option.some.injEq, Prod.mk.injEq] at h
    obtain ⟨rfl, rfl, rfl⟩ := h
    refine ⟨σ, K, ?_, .inl hs, Nat.le_refl _, fun _ _ => rfl⟩
    rw [hv.sc hs]
    exact .ofSc hs
  · split at h
    · rename_i ad n c hnsc
      split at h
      · simp at h
      · rename_i hn
        simp only [Bool.or_eq_true, decide_eq_true_eq, List.contains_eq_mem, not_or] at hn
        split at h
        · rename_i b cells hb hrd
          split at h
          · rename_i hcond
            simp only [Bool.and_eq_true, beq_iff_eq, Bool.not_eq_true'] at hcond
            obtain ⟨⟨hsc, hrow⟩, hro⟩ := hcond
            simp only [Option.some.injEq, Prod.mk.injEq] at h
            obtain ⟨rfl, rfl, rfl⟩ := h
            obtain ⟨b', hb', hsp, hle, rfl⟩ := rdN_some hrd
            rw [hb] at hb'
            obtain rfl := Option.some.inj hb'
            have hid := (List.getElem?_eq_some_iff.1 hb).1
            have hfree : ∀ j, j < acc.length → (σ j).blk ≠ (ρ' ad.block).blk := fun j hj => by
              have hjb : ∃ c, acc[j]? = some c := ⟨_, List.getElem?_eq_getElem hj⟩
              by_cases hjn : j < H.length
              · rw [K.old j hjn]
                have h1 := hsub j _ (List.getElem?_eq_getElem hjn)
                exact R'.sep j ad.block _ b h1 hb (by omega) (.inr hro)
              · obtain ⟨⟨id, q1, q2, q3, q4⟩, _⟩ := K.new j (by omega) hj
                rw [q4]
                have hne : id ≠ ad.block := fun e => hn.1 (by subst e; simpa using q1)
                exact R'.sep id ad.block _ b (List.getElem?_eq_getElem q3) hb hne (.inr hro)
            obtain ⟨σ', s1, s2, s3⟩ := adopt K.rel R' hb hro hfree hle hsc (fun j c hj => by
              by_cases hjn : j < H.length
              · have h1 := K.pre.2 j _ (List.getElem?_eq_getElem hjn)
                rw [hj] at h1
                obtain rfl := Option.some.inj h1
                exact .inr ⟨hsub j _ (List.getElem?_eq_getElem hjn), K.old j hjn⟩
              · exact .inl ((K.new j (by omega) (List.getElem?_eq_some_iff.1 hj).1).2 c hj))
            rw [hrow] at s1 s3
            refine ⟨σ', ⟨s3, ⟨by have := K.pre.1; simp; omega, fun id bx hbx => ?_⟩, fun id hid' => ?_, fun j hj1 hj2 => ?_⟩, ?_, .inr ⟨_, _, _, rfl⟩, by simp, s2⟩
            · rw [List.getElem?_append_left (by have := (List.getElem?_eq_some_iff.1 hbx).1; have := K.pre.1; omega)]
              exact K.pre.2 id bx hbx
            · rw [s2 id (by have := K.pre.1; omega)]; exact K.old id hid'
            · simp only [List.length_append, List.length_singleton] at hj2
              by_cases hj3 : j < acc.length
              · obtain ⟨⟨id, q1, q2, q3, q4⟩, q5⟩ := K.new j hj1 hj3
                refine ⟨⟨id, List.mem_cons_of_mem _ q1, q2, q3, by rw [s2 j hj3]; exact q4⟩, fun c hc => q5 c ?_⟩
                rw [List.getElem?_append_left hj3] at hc
                exact hc
              · have hje : j = acc.length := by omega
                subst hje
                refine ⟨⟨ad.block, by simp, by omega, hid, by rw [s1]⟩, fun c hc => ?_⟩
                simp at hc
                subst hc
                exact hsc
            · cases hv with
              | slice id off g _ _ c' ra hid' hg hnc ha =>
                simp only [Option.some.injEq] at hsp
                have hgen : g = (ρ' id).gen := by rw [(R'.box id b hb).gen]; exact hsp
                obtain ⟨a1, a2⟩ := ha hgen
                refine .slice _ _ _ _ _ _ _ (by simp) (by omega) hnc fun _ => ⟨fun hp => by rw [s1, a1 hp]; rfl, fun hr hr0 hp => ?_⟩
                rw [s1]
                simp only
                have := a2 (by rw [(R'.box id b hb).row]; exact hrow) hr0 hp
                omega
          · simp at h
        · simp at h
    · simp at h

theorem VRel.keep {N N' : Nat} {σ σ' : Nat → RB} {h : Array Obj} {v a : Value} (r : VRel N σ h v a) (hz : isSc v = true ∨ ∃ ad n c, v = .slice (some ad) n c) (hN : N ≤ N') (hσ : ∀ j, j < N → σ' j = σ j) : VRel N' σ' h v a := by
  rcases hz with hz | ⟨ad, n, c, rfl⟩
  · rw [r.sc hz]; exact .ofSc hz
  · cases r with
    | slice id off g _ _ c' ra hid hg hnc ha =>
      refine .slice id off g n c c' ra (by omega) ?_ hnc ?_ <;> rw [hσ id hid] <;> assumption

theorem gcL_sound {w0 w' : World} {H H' : Heap} {ρ' : Nat → RB} (R' : Rel w0 ρ' H' w') (hsub : ∀ (id : Nat) (b : Box), H[id]? = some b → H'[id]? = some b) : ∀ (l l1 l' : List Value) (acc acc' : Heap) (used : List Nat) (σ : Nat → RB),
    Kept w0 H ρ' H' w' acc used σ → gcL H.length H' acc used l = some (l1, acc') → LRel H'.length ρ' w'.heap l l' →
    ∃ σ' used', Kept w0 H ρ' H' w' acc' used' σ' ∧ LRel acc'.length σ' w'.heap l1 l' ∧ acc.length ≤ acc'.length ∧ ∀ j, j < acc.length → σ' j = σ j
  | [], l1, l', acc, acc', used, σ, K, h, hl => by
    simp only [gcL, Option.some.injEq, Prod.mk.injEq] at h
    obtain ⟨rfl, rfl⟩ := h
    have : l' = [] := List.eq_nil_of_length_eq_zero hl.1.symm
    subst this
    exact ⟨σ, used, K, .nil _ _ _, Nat.le_refl _, fun _ _ => rfl⟩
  | v :: l, l1, l', acc, acc', used, σ, K, h, hl => by
    match l', hl with
    | [], hl => exact absurd hl.1 (by simp)
    | a :: l', hl =>
      simp only [gcL] at h
      split at h
      · rename_i v1 acc1 used1 h1
        split at h
        · rename_i l2 acc2 h2
          simp only [Option.some.injEq, Prod.mk.injEq] at h
          obtain ⟨rfl, rfl⟩ := h
          obtain ⟨σ1, K1, V1, Z1, L1, S1⟩ := gcOne_sound R' hsub K h1 (hl.2 0 v a rfl rfl)
          obtain ⟨σ2, used2, K2, V2, L2, S2⟩ := gcL_sound R' hsub l l2 l' acc1 acc2 used1 σ1 K1 h2 ⟨by simpa using hl.1, fun i x y hx hy => hl.2 (i + 1) x y (by simpa using hx) (by simpa using hy)⟩
          refine ⟨σ2, used2, K2, .cons ?_ V2, Nat.le_trans L1 L2, fun j hj => by rw [S2 j (by omega), S1 j hj]⟩
          exact V1.keep Z1 L2 S2
        · simp at h
      · simp at h

/-- A function of which nothing stays but what it hands back. -/
def pureFn (F : Nat → List Value → Heap → Option (Value × Heap)) : Nat → List Value → Heap → Option (Value × Heap) := fun _ args H =>
  match F H.length args H with
  | some (v, H') => gcRes H H' v
  | none => none

theorem pureFn_valid {P : Program} {w0 : World} {F : Nat → List Value → Heap → Option (Value × Heap)} {f : FuncId} (hF : ValidAt P w0 F f) : ValidAt P w0 (pureFn F) f := by
  intro fl args H v1 acc h
  unfold pureFn at h
  split at h
  case h_2 => simp at h
  rename_i v H' hv
  obtain ⟨hok, hfloor, hcalls⟩ := hF H.length args H v H' hv
  have hsub : ∀ (id : Nat) (b : Box), H[id]? = some b → H'[id]? = some b := fun id b hb => hfloor id b (List.getElem?_eq_some_iff.1 hb).1 hb
  have main : ∀ ρ w w' ρ' a, Rel w0 ρ H w → Rel w0 ρ' H' w' → Ext H.length ρ w.heap H'.length ρ' w'.heap → VRel H'.length ρ' w'.heap v a → ∃ σ, VRel acc.length σ w'.heap v1 a ∧ Rel w0 σ acc w' ∧ Ext H.length ρ w.heap acc.length σ w'.heap ∧ FloorOK fl H acc := by
    intro ρ w w' ρ' a R R' x hva
    obtain ⟨R1, X1, hρ⟩ := shrink R R' x hsub
    have K0 : Kept w0 H ρ' H' w' H [] ρ := ⟨R1, ⟨Nat.le_refl _, fun _ _ h => h⟩, fun id hid => (hρ id hid).symm, fun j h1 h2 => by omega⟩
    have fin : ∀ (used : List Nat) (σ : Nat → RB), Kept w0 H ρ' H' w' acc used σ → Rel w0 σ acc w' ∧ Ext H.length ρ w.heap acc.length σ w'.heap ∧ FloorOK fl H acc := fun used σ K => by
      refine ⟨K.rel, ⟨K.pre.1, fun id hid => ?_, fun id hid => ?_, x.size, x.frame⟩, fun id b _ hb => K.pre.2 id b hb⟩
      · rw [K.old id hid, hρ id hid]; exact ⟨Nat.le_refl _, fun _ => rfl⟩
      · by_cases h1 : id < H.length
        · rw [K.old id h1, hρ id h1]; exact .inl ⟨h1, rfl⟩
        · obtain ⟨⟨j, _, q2, q3, q4⟩, _⟩ := K.new id (by omega) hid
          rw [q4]
          rcases x.blk j q3 with ⟨q5, _⟩ | q5
          · omega
          · exact .inr q5
    unfold gcRes at h
    split at h
    · rename_i vs
      split at h
      · rename_i l acc1 hl
        simp only [Option.some.injEq, Prod.mk.injEq] at h
        obtain ⟨rfl, rfl⟩ := h
        cases hva with
        | tuple _ cs' hs hc =>
          obtain ⟨σ, used, K, L, _⟩ := gcL_sound R' hsub vs.toList l cs'.toList H _ [] ρ K0 hl ⟨by simpa using hs, fun i a b h1 h2 => hc i a b (by simpa using h1) (by simpa using h2)⟩
          refine ⟨σ, ?_, fin used σ K⟩
          exact .tuple _ _ (by simpa using L.1) fun i a b h1 h2 => L.2 i a b (by simpa using h1) (by simpa using h2)
      · simp at h
    · split at h
      · rename_i v2 acc1 used hl
        simp only [Option.some.injEq, Prod.mk.injEq] at h
        obtain ⟨rfl, rfl⟩ := h
        obtain ⟨σ, K, V, _⟩ := gcOne_sound R' hsub K0 hl hva
        exact ⟨σ, V, fin used σ K⟩
      · simp at h
  refine ⟨hok, ?_, fun ρ w args' R hargs => ?_⟩
  · -- the memory's head stays
    intro id b _ hb
    have gc1 : ∀ (acc : Heap) (used : List Nat) (v v1 : Value) (acc' : Heap) (used' : List Nat), gcOne H.length H' acc used v = some (v1, acc', used') → ∀ (id : Nat) (b : Box), acc[id]? = some b → acc'[id]? = some b := by
      intro acc used v v1 acc' used' h id b hb
      unfold gcOne at h
      split at h
      · simp only [Option.some.injEq, Prod.mk.injEq] at h; obtain ⟨_, rfl, _⟩ := h; exact hb
      · split at h
        · split at h
          · simp at h
          · split at h
            · split at h
              · simp only [Option.some.injEq, Prod.mk.injEq] at h
                obtain ⟨_, rfl, _⟩ := h
                rw [List.getElem?_append_left (List.getElem?_eq_some_iff.1 hb).1]; exact hb
              · simp at h
            · simp at h
        · simp at h
    have gcl : ∀ (l : List Value) (acc : Heap) (used : List Nat) (l1 : List Value) (acc' : Heap), gcL H.length H' acc used l = some (l1, acc') → ∀ (id : Nat) (b : Box), acc[id]? = some b → acc'[id]? = some b := by
      intro l
      induction l with
      | nil => intro acc used l1 acc' h id b hb; simp only [gcL, Option.some.injEq, Prod.mk.injEq] at h; obtain ⟨_, rfl⟩ := h; exact hb
      | cons v l ih =>
        intro acc used l1 acc' h id b hb
        simp only [gcL] at h
        split at h
        · rename_i v1 acc1 used1 h1
          split at h
          · rename_i l2 acc2 h2
            simp only [Option.some.injEq, Prod.mk.injEq] at h
            obtain ⟨_, rfl⟩ := h
            exact ih _ _ _ _ h2 id b (gc1 _ _ _ _ _ _ h1 id b hb)
          · simp at h
        · simp at h
    unfold gcRes at h
    split at h
    · split at h
      · rename_i l acc1 hl
        simp only [Option.some.injEq, Prod.mk.injEq] at h
        obtain ⟨_, rfl⟩ := h
        exact gcl _ _ _ _ _ hl id b hb
      · simp at h
    · split at h
      · rename_i v2 acc1 used hl
        simp only [Option.some.injEq, Prod.mk.injEq] at h
        obtain ⟨_, rfl⟩ := h
        exact gc1 _ _ _ _ _ _ hl id b hb
      · simp at h
  · refine (hcalls ρ w args' R hargs).mono ?_
    rintro e w' ⟨a, ρ', rfl, hva, R', x⟩
    obtain ⟨σ, q1, q2, q3, _⟩ := main ρ w w' ρ' a R R' x hva
    exact ⟨a, σ, rfl, q1, q2, q3⟩

/-- A row that says less. -/
theorem ValidAt.weaken {P : Program} {w0 : World} {F G : Nat → List Value → Heap → Option (Value × Heap)} {f : FuncId} (hF : ValidAt P w0 F f) (h : ∀ fl args H r, G fl args H = some r → F fl args H = some r) : ValidAt P w0 G f :=
  fun fl args H v H' hg => hF fl args H v H' (h fl args H _ hg)

end Go.Lev

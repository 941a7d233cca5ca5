/- Operations, more: build, row, field, index, slice. -/
import Derived.Test.YtcaogimdpcaohaaDoorLev5
set_option linter.unusedVariables false
set_option linter.unusedSimpArgs false
namespace Go.Lev
open Go Go.RowKit

theorem foldl_seg (off : Nat) : ∀ (l : List Value) (k : Nat) (cs : Array Value), off + k + l.length ≤ cs.size →
    ((l.zipIdx k).foldl (fun (cs : Array Value) (p : Value × Nat) => cs.setIfInBounds (off + p.2) p.1) cs).toList = setSeg cs.toList (off + k) l
  | [], k, cs, h => by simp [setSeg]
  | c :: l, k, cs, h => by
    simp only [List.length_cons] at h
    rw [List.zipIdx_cons, List.foldl_cons]
    have ih := foldl_seg off l (k + 1) (cs.setIfInBounds (off + k) c) (by simp; omega)
    rw [ih]
    apply List.ext_getElem?
    intro i
    rw [setSeg_get _ _ _ (by simp; omega), setSeg_get _ _ _ (by simp; omega)]
    simp only [Array.toList_setIfInBounds, List.getElem?_set, Array.length_toList, List.length_cons]
    by_cases h1 : i = off + k
    · subst h1
      rw [if_neg (by omega), if_pos rfl, if_pos (by omega), if_pos (by omega)]
      simp
    · by_cases h2 : off + k < i ∧ i < off + k + (l.length + 1)
      · rw [if_pos (by omega), if_pos (by omega)]
        have e : i - (off + k) = (i - (off + (k + 1))) + 1 := by omega
        rw [e, List.getElem?_cons_succ]
      · rw [if_neg (by omega), if_neg (by omega), if_neg (by omega)]

theorem fill_rel {N : Nat} {ρ : Nat → RB} {h : Array Obj} {env : Nat → Value} {a : Act} (E : ERel N ρ h env a) (pl : Nat → Option (Nat × Nat)) :
    ∀ (parts : List (Nat × Operand)) (rp : List (Nat × Nat × Operand)) (zero cs : List Value) (zero' : Array Value), parts.all (fun p => okX p.2) = true → resolveParts pl parts = some rp → fillL zero (evParts env rp) = some cs →
      LRel N ρ h zero zero'.toList → ∃ cs' : Array Value, Instr.fill pl zero' (parts.map fun p => (p.1, a.eval p.2)) = some cs' ∧ LRel N ρ h cs cs'.toList
  | [], rp, zero, cs, zero', hok, hr, hf, hz => by
    simp only [resolveParts, Option.some.injEq] at hr
    subst hr
    simp only [evParts, List.map_nil, fillL, Option.some.injEq] at hf
    subst hf
    exact ⟨zero', rfl, hz⟩
  | (i, x) :: rest, rp, zero, cs, zero', hok, hr, hf, hz => by
    simp only [List.all_cons, Bool.and_eq_true] at hok
    simp only [resolveParts] at hr
    split at hr
    · rename_i o s l hpl hl
      obtain rfl := Option.some.inj hr
      simp only [evParts, List.map_cons, fillL] at hf
      split at hf
      · rename_i hc
        have hv := (E.ev hok.1).cells
        have hsz : (a.eval x).cells.size = s := by have := hv.1; simp only [Array.length_toList] at this; omega
        have hzl := hz.1
        simp only [Array.length_toList] at hzl
        have hn1 : ¬ ((a.eval x).cells.size ≠ s ∨ o + (a.eval x).cells.size > zero'.size) := by
          rw [hsz]
          omega
        have e1 : ((a.eval x).cells.zipIdx.foldl (fun (cs : Array Value) (p : Value × Nat) => cs.setIfInBounds (o + p.2) p.1) zero').toList = setSeg zero'.toList o (a.eval x).cells.toList := by
          rw [← Array.foldl_toList, Array.toList_zipIdx]
          have := foldl_seg o (a.eval x).cells.toList 0 zero' (by simp; omega)
          simpa using this
        obtain ⟨cs', h1, h2⟩ := fill_rel E pl rest l _ cs ((a.eval x).cells.zipIdx.foldl (fun (cs : Array Value) (p : Value × Nat) => cs.setIfInBounds (o + p.2) p.1) zero') hok.2 hl hf (by
          rw [e1]
          exact hz.seg hv o)
        refine ⟨cs', ?_, h2⟩
        simp only [List.map_cons, Instr.fill, hpl]
        have hn2 : (decide ((a.eval x).cells.size ≠ s) || decide (o + (a.eval x).cells.size > zero'.size)) = false := by
          simp only [Bool.or_eq_false_iff, decide_eq_false_iff_not]
          exact ⟨fun h => hn1 (.inl h), fun h => hn1 (.inr h)⟩
        rw [hn2]
        exact h1
      · simp at hf
    · simp at hr

theorem mapM_places {P : Program} (w : World) (g : Field → Sem (Nat × Nat)) (hg : ∀ f n, tySize P f.type = some n → (g f).run P w = .ok (f.offset, n) w) : ∀ (fs : List Field) (pl : List (Nat × Nat)), places P fs = some pl →
    (fs.mapM g).run P w = .ok pl w
  | [], pl, h => by simp [places] at h; subst h; simp
  | f :: fs, pl, h => by
    simp only [places] at h
    split at h
    · rename_i n l hn hl
      obtain rfl := Option.some.inj h
      simp [hg f n hn, mapM_places w g hg fs l hl]
    · simp at h

section
variable {P : Program} {T : Tab} {fl : Nat} {env : Nat → Value} {H H' : Heap} {w0 w : World} {ρ : Nat → RB} {a : Act} {v : Value}

theorem parts_map (parts : Array (Nat × Operand)) (f : Operand → Value) : (parts.map fun (i, x) => (i, f x)).toList = parts.toList.map fun p => (p.1, f p.2) := by
  simp [Array.toList_map]

theorem build_res (R : Rel w0 ρ H w) (E : ERel H.length ρ w.heap env a) {t : TypeId} {parts : Array (Nat × Operand)} {lo : LO} (hx : parts.toList.all (fun p => okX p.2) = true) (hc : cBuild P t parts.toList = some lo) (hs : lo.step P T fl env H = some (v, H')) :
    Res w0 ρ H w v H' ((Instr.build t (parts.map fun (i, x) => (i, a.eval x))).run P w) := by
  unfold cBuild at hc
  split at hc
  · rename_i z fields hz hu
    split at hc
    · rename_i hall
      split at hc
      · rename_i pl hpl
        simp only [Option.map_eq_some_iff] at hc
        obtain ⟨rp, hrp, rfl⟩ := hc
        simp only [LO.step, Option.map_eq_some_iff, Prod.mk.injEq] at hs
        obtain ⟨cs, hcs, rfl, rfl⟩ := hs
        obtain ⟨cs', h1, h2⟩ := fill_rel E (pl[·]?) parts.toList rp _ cs z.cells hx hrp hcs (.ofSc0 hall)
        refine Res.same R (v' := .agg cs') ?_ (by have := h2.agg; simpa using this)
        have hm := mapM_places (P := P) w (fun f => do pure (f.offset, ← sizeOf f.type)) (fun f n hn => by simp [run_sizeOf hn]) fields.toList pl hpl
        have hp : ∀ i : Nat, (pl.toArray)[i]? = pl[i]? := fun i => by simp
        unfold Instr.build
        simp only [Sem.run_bind, run_zeroValue hz, Result.andThen_ok, run_underlying hu, Array.mapM_eq_mapM_toList, Sem.run_map, hm, parts_map]
        simp only [hp, h1]
        rfl
      · simp at hc
    · simp at hc
  · rename_i z n e hz hu
    split at hc
    · rename_i hall
      split at hc
      · rename_i sz hsz
        simp only [Option.map_eq_some_iff] at hc
        obtain ⟨rp, hrp, rfl⟩ := hc
        simp only [LO.step, Option.map_eq_some_iff, Prod.mk.injEq] at hs
        obtain ⟨cs, hcs, rfl, rfl⟩ := hs
        obtain ⟨cs', h1, h2⟩ := fill_rel E _ parts.toList rp _ cs z.cells hx hrp hcs (.ofSc0 hall)
        refine Res.same R (v' := .agg cs') ?_ (by have := h2.agg; simpa using this)
        unfold Instr.build
        simp only [Sem.run_bind, run_zeroValue hz, Result.andThen_ok, run_underlying hu, run_sizeOf hsz, parts_map, h1]
        rfl
      · simp at hc
    · simp at hc
  · simp at hc

theorem zeroRow_eq (z : Array Value) (n : Nat) (h : 0 < z.size) : ((Array.range n).map (z[· % z.size]!)).toList = zeroRow z.toList n := by
  unfold zeroRow
  rw [Array.toList_map, Array.toList_range]
  apply List.map_congr_left
  intro i _
  have : i % z.size < z.size := Nat.mod_lt _ h
  simp [List.getD_eq_getElem?_getD, this]

theorem zeroRow_sc (z : List Value) (n : Nat) (h : z.all isSc0 = true) (h0 : 0 < z.length) : (zeroRow z n).all isSc0 = true := by
  rw [List.all_eq_true] at h ⊢
  intro x hx
  unfold zeroRow at hx
  obtain ⟨i, _, rfl⟩ := List.mem_map.1 hx
  have : i % z.length < z.length := Nat.mod_lt _ h0
  rw [List.getD_eq_getElem?_getD, List.getElem?_eq_getElem this]
  exact h _ (List.getElem_mem this)

theorem row_res (R : Rel w0 ρ H w) (E : ERel H.length ρ w.heap env a) {t : TypeId} {m : Bool} {len : Nat} {parts : Array (Nat × Operand)} {lo : LO} (hx : parts.toList.all (fun p => okX p.2) = true) (hc : cRow P m t len parts.toList = some lo)
    (hs : lo.step P T fl env H = some (v, H')) : Res w0 ρ H w v H' ((Instr.buildSlice t len (parts.map fun (i, x) => (i, a.eval x))).run P w) := by
  unfold cRow at hc
  split at hc
  · rename_i e hu
    split at hc
    · rename_i n z hn hz
      split at hc
      · rename_i hcond
        obtain ⟨hall, hzs, hn0, hlim⟩ := hcond
        simp only [Option.map_eq_some_iff] at hc
        obtain ⟨rp, hrp, rfl⟩ := hc
        have hz0 : 0 < z.cells.size := by omega
        have key : ∀ cs, fillL (zeroRow z.cells.toList (len * n)) (evParts env rp) = some cs → ∃ cs' : Array Value, LRel H.length ρ w.heap cs cs'.toList ∧
            (Instr.buildSlice t len (parts.map fun (i, x) => (i, a.eval x))).run P w = .ok (.slice (some ⟨w.heap.size, 0, none⟩) len len) (w.alloc (.cells cs' e)) := by
          intro cs hcs
          have hzr : zeroRow z.cells.toList (len * n) = ((Array.range (len * n)).map (z.cells[· % z.cells.size]!)).toList := (zeroRow_eq _ _ hz0).symm
          obtain ⟨cs', h1, h2⟩ := fill_rel E (fun i => some (i * n, n)) parts.toList rp _ cs ((Array.range (len * n)).map (z.cells[· % z.cells.size]!)) hx hrp hcs (by
            rw [← hzr]
            exact .ofSc0 (zeroRow_sc _ _ hall (by simpa using hz0)))
          refine ⟨cs', h2, ?_⟩
          have hlim' : ¬ (len * n > 2 ^ 24) := by simpa using hlim
          unfold Instr.buildSlice
          simp only [Sem.run_bind, run_underlying hu, Result.andThen_ok, run_sizeOf hn, hlim', if_false, parts_map]
          by_cases h0 : len * n = 0
          · have e0 : ((Array.range (len * n)).map (z.cells[· % z.cells.size]!)) = ((Array.range (len * n)).map ((#[] : Array Value)[· % (#[] : Array Value).size]!)) := by rw [h0]; simp
            rw [e0] at h1
            rw [if_pos h0]
            simp at h1
            simp [h1, newRow]
          · simp only [h0, if_false, Sem.run_bind, run_zeroValue hz, Result.andThen_ok, Sem.run_pure, h1]
            simp [newRow]
        cases m with
        | false =>
          simp only [LO.step, Option.map_eq_some_iff, Prod.mk.injEq, Bool.false_eq_true, if_false] at hs
          obtain ⟨cs, hcs, rfl, rfl⟩ := hs
          obtain ⟨cs', h1, h2⟩ := key cs hcs
          obtain ⟨ρ', k1, k2, k3⟩ := R.push { cells := cs, gen := 0, row := n } rfl rfl cs' e (fun j u hj => by
            obtain ⟨u', q1, q2⟩ := h1.get hj
            exact ⟨u', by simpa using q1, q2⟩)
          refine ⟨_, _, ρ', h2, ?_, k2, k3⟩
          refine .slice _ _ _ _ _ _ _ (by simp) (by omega) (Nat.le_refl _) fun _ => ⟨fun _ => by rw [k1], fun _ _ _ => ?_⟩
          rw [k1]
          have hl := h1.1
          have hlen : cs.length = len * n := by
            have hfl : ∀ (ps : List (Nat × Nat × Value)) (z cs : List Value), fillL z ps = some cs → cs.length = z.length := by
              intro ps
              induction ps with
              | nil => intro z cs h; simp [fillL] at h; rw [h]
              | cons p ps ih =>
                obtain ⟨o, s, u⟩ := p
                intro z cs h
                simp only [fillL] at h
                split at h
                · rename_i hcc
                  rw [ih _ _ h]
                  simp [setSeg]
                  omega
                · simp at h
            rw [hfl _ _ _ hcs]
            simp [zeroRow]
          simp only [Array.length_toList] at hl
          simp only [Nat.zero_add]
          omega
        | true =>
          simp only [LO.step, Option.map_eq_some_iff, Prod.mk.injEq, if_true] at hs
          obtain ⟨cs, hcs, rfl, rfl⟩ := hs
          obtain ⟨cs', h1, h2⟩ := key cs hcs
          have x : Ext H.length ρ w.heap H.length ρ (w.alloc (.cells cs' e)).heap :=
            ⟨Nat.le_refl _, fun _ _ => ⟨Nat.le_refl _, fun _ => rfl⟩, fun _ h => .inl ⟨h, rfl⟩, by simp, fun k hk _ => Below.heap_alloc w _ k hk⟩
          refine ⟨_, _, ρ, h2, ?_, ?_, x⟩
          · refine .marker cs.toArray cs' w.heap.size len len e (0, 0) (by simp) (Nat.le_refl _) (fun id hid => ?_) (by show (w.heap.push _)[w.heap.size]? = _; simp) (by simpa using h1.1) fun i u u' hi hi' => ?_
            · have := R.blkLt hid; omega
            · exact (h1.2 i u u' (by simpa using hi) (by simpa using hi')).mono x
          · refine ⟨R.below.alloc R.below.size _, fun id b hb => ?_, R.sep⟩
            have hB := R.box id b hb
            obtain ⟨cs1, e1, fr1, q1, q2, q3, q4⟩ := hB.cells
            refine ⟨hB.gen, hB.row, hB.fresh, cs1, e1, fr1, ?_, q2, q3, fun i u hu => ?_⟩
            · rw [Below.heap_alloc w _ _ (R.boxBlk hb), q1]
            · obtain ⟨u', g1, g2⟩ := q4 i u hu
              exact ⟨u', g1, g2.mono x⟩
      · simp at hc
    · simp at hc
  · simp at hc

theorem fieldAddr_res (R : Rel w0 ρ H w) (E : ERel H.length ρ w.heap env a) {t : TypeId} {x : Operand} {f : Nat} {lo : LO} (hx : okX x = true) (hc : cFieldAddr P t x f = some lo) (hs : lo.step P T fl env H = some (v, H')) :
    Res w0 ρ H w v H' ((Instr.fieldAt t (a.eval x) f).run P w) := by
  have hv := E.ev hx
  unfold cFieldAddr at hc
  split at hc
  · rename_i fields hu
    split at hc
    · rename_i fd hfd
      split at hc
      · rename_i n hn
        split at hc
        · simp at hc
        · rename_i hn0
          obtain rfl := Option.some.inj hc
          simp only [LO.step] at hs
          split at hs
          · rename_i ad hev
            simp only [Option.some.injEq, Prod.mk.injEq] at hs
            obtain ⟨rfl, rfl⟩ := hs
            rw [hev] at hv
            generalize a.eval x = X at hv ⊢
            cases hv with
            | ptr id off g ra hid hg ha =>
              refine Res.same R (v' := .pointer (some (ra.add fd.offset))) ?_ (.ptr _ _ _ _ hid hg fun e => ?_)
              · simp [Instr.fieldAt, run_underlying hu, hfd, Instr.sureAddr, fieldPlace, run_sizeOf hn, hn0]
              · rw [ha e, Addr.add_lit, Nat.add_assoc]
          · simp at hs
      · simp at hc
    · simp at hc
  · simp at hc

theorem run_part {t : TypeId} {cs : Array Value} {off : Nat} {b : Bool} {n : Nat} (hb : tyAgg P t = some b) (hn : tySize P t = some n) (w : World) :
    (part t cs off).run P w = if b then .ok (.agg (cs.extract off (off + n))) w else match cs[off]? with
      | some v => .ok v w
      | none => .halt (.stuck "part: no such cell") w := by
  unfold part
  rw [Sem.run_bind, run_isAgg hb]
  simp only [Result.andThen_ok]
  cases b
  · simp only [Bool.false_eq_true, if_false]
    cases cs[off]? <;> rfl
  · simp only [if_true, Sem.run_bind, run_sizeOf hn, Result.andThen_ok, Sem.run_pure]

theorem LRel.extract {N : Nat} {ρ : Nat → RB} {h : Array Obj} {cs cs' : Array Value} (hs : cs.size = cs'.size) (hc : ∀ (i : Nat) (v v' : Value), cs[i]? = some v → cs'[i]? = some v' → VRel N ρ h v v') (i j : Nat) :
    VRel N ρ h (.agg (cs.extract i j)) (.agg (cs'.extract i j)) := by
  refine .agg _ _ (by simp [hs]) fun k u u' h1 h2 => ?_
  rw [Array.getElem?_extract] at h1 h2
  split at h1
  · rw [if_pos (by rename_i q; rw [← hs]; exact q)] at h2
    exact hc _ u u' h1 h2
  · simp at h1

theorem field_res (R : Rel w0 ρ H w) (E : ERel H.length ρ w.heap env a) {t : TypeId} {x : Operand} {f : Nat} {lo : LO} (hx : okX x = true) (hc : cField P t x f = some lo) (hs : lo.step P T fl env H = some (v, H')) :
    Res w0 ρ H w v H' ((Instr.field t (a.eval x) f).run P w) := by
  have hv := E.ev hx
  unfold cField at hc
  split at hc
  · rename_i fields hu
    split at hc
    · rename_i fd hfd
      split at hc
      · rename_i n ha hn
        obtain rfl := Option.some.inj hc
        simp only [LO.step] at hs
        split at hs
        · rename_i cs hev
          simp only [Option.map_eq_some_iff, Prod.mk.injEq] at hs
          obtain ⟨u, hu', rfl, rfl⟩ := hs
          rw [hev] at hv
          generalize a.eval x = X at hv ⊢
          cases hv with
          | agg _ cs' hsz hcc =>
            have hi : fd.offset < cs'.size := by have := (Array.getElem?_eq_some_iff.1 hu').1; omega
            refine Res.same R (v' := cs'[fd.offset]) ?_ (hcc _ _ _ hu' (Array.getElem?_eq_getElem hi))
            simp [Instr.field, run_underlying hu, hfd, asAgg, run_part ha hn, hi]
        · simp at hs
      · rename_i n ha hn
        obtain rfl := Option.some.inj hc
        simp only [LO.step] at hs
        split at hs
        · rename_i cs hev
          simp only [Option.some.injEq, Prod.mk.injEq] at hs
          obtain ⟨rfl, rfl⟩ := hs
          rw [hev] at hv
          generalize a.eval x = X at hv ⊢
          cases hv with
          | agg _ cs' hsz hcc =>
            refine Res.same R (v' := .agg (cs'.extract fd.offset (fd.offset + n))) ?_ (LRel.extract hsz hcc _ _)
            simp [Instr.field, run_underlying hu, hfd, asAgg, run_part ha hn]
        · simp at hs
      · simp at hc
    · simp at hc
  · simp at hc

theorem int_of {N : Nat} {ρ : Nat → RB} {h : Array Obj} {k : IntKind} {n : Int} {x : Value} (r : VRel N ρ h (.int k n) x) : x = .int k n := by cases r; rfl

theorem indexAddr_res (R : Rel w0 ρ H w) (E : ERel H.length ρ w.heap env a) {t : TypeId} {x y : Operand} {lo : LO} (hx : okX x = true) (hy : okX y = true) (hc : cIndexAddr P t x y = some lo) (hs : lo.step P T fl env H = some (v, H')) :
    Res w0 ρ H w v H' ((Instr.indexAt t (a.eval x) (a.eval y)).run P w) := by
  have hv := E.ev hx
  have hv2 := E.ev hy
  unfold cIndexAddr at hc
  split at hc
  · rename_i len e hu
    simp only [Option.map_eq_some_iff] at hc
    obtain ⟨n, hn, rfl⟩ := hc
    simp only [LO.step] at hs
    split at hs
    · rename_i ad k i hev hev2
      split at hs
      · rename_i hb
        simp only [Option.some.injEq, Prod.mk.injEq] at hs
        obtain ⟨rfl, rfl⟩ := hs
        rw [hev] at hv
        rw [hev2] at hv2
        have e2 := int_of hv2
        generalize a.eval x = X at hv ⊢
        cases hv with
        | ptr id off g ra hid hg ha =>
          refine Res.same R (v' := .pointer (some (ra.add (i.toNat * n)))) ?_ (.ptr _ _ _ _ hid hg fun e => ?_)
          · rw [e2]
            simp [Instr.indexAt, asIntOf, run_underlying hu, Instr.sureAddr, hb, run_sizeOf hn]
          · rw [ha e, Addr.add_lit, Nat.add_assoc]
      · simp at hs
    · simp at hs
  · rename_i e hu
    simp only [Option.map_eq_some_iff] at hc
    obtain ⟨n, hn, rfl⟩ := hc
    simp only [LO.step] at hs
    split at hs
    · rename_i ad len c k i hev hev2
      split at hs
      · rename_i hb
        simp only [Option.some.injEq, Prod.mk.injEq] at hs
        obtain ⟨rfl, rfl⟩ := hs
        rw [hev] at hv
        rw [hev2] at hv2
        have e2 := int_of hv2
        generalize a.eval x = X at hv ⊢
        cases hv with
        | slice id off g _ _ c' ra hid hg hnc ha =>
          refine Res.same R (v' := .pointer (some (ra.add (i.toNat * n)))) ?_ (.ptr _ _ _ _ hid hg fun e => ?_)
          · rw [e2]
            simp [Instr.indexAt, asIntOf, run_underlying hu, hb, run_sizeOf hn]
          · rw [(ha e).1 (by omega), Addr.add_lit, Nat.add_assoc]
      · simp at hs
    · simp at hs
  · simp at hc

end
end Go.Lev

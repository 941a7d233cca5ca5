/- Equality of structs and arrays; bytes to a string. -/
import Derived.Test.YtcaogimdpcaohaaDoorLev7
import Derived.Laws.StructEq
import Derived.Laws.BytesArg
set_option linter.unusedVariables false
set_option linter.unusedSimpArgs false
namespace Go.Lev
open Go Go.RowKit

theorem eqAll_append (xs ys : List Value) : ∀ (l m : List (Nat × Nat)), eqAll xs ys (l ++ m) = match eqAll xs ys l, eqAll xs ys m with
    | some a, some b => some (a && b)
    | _, _ => none
  | [], m => by
    simp only [List.nil_append, eqAll]
    cases eqAll xs ys m <;> simp
  | o :: l, m => by
    simp only [List.cons_append, eqAll, eqAll_append xs ys l m]
    cases cmpAt xs ys o <;> cases eqAll xs ys l <;> cases eqAll xs ys m <;> simp [Bool.and_assoc]

theorem eqAll_sub (xs ys : Array Value) (o m : Nat) : ∀ (l : List (Nat × Nat)), l.all (fun p => p.1 < m) = true → eqAll (xs.extract o (o + m)).toList (ys.extract o (o + m)).toList l = eqAll xs.toList ys.toList (l.map fun p => (o + p.1, p.2))
  | [], _ => rfl
  | i :: l, h => by
    simp only [List.all_cons, Bool.and_eq_true, decide_eq_true_eq] at h
    have e : ∀ zs : Array Value, (zs.extract o (o + m)).toList[i.1]? = zs.toList[o + i.1]? := fun zs => by
      rw [Array.getElem?_toList, Array.getElem?_toList, Array.getElem?_extract]
      by_cases hs : i.1 < min (o + m) zs.size - o
      · rw [if_pos hs]
      · rw [if_neg hs, Array.getElem?_eq_none (by omega)]
    simp only [eqAll, List.map_cons, cmpAt, e, eqAll_sub xs ys o m l h.2]

theorem run_eqFields {P : Program} (w : World) (D : Nat) (xs ys : Array Value) (rec : TypeId → Option (List (Nat × Nat)))
    (hrec : ∀ t l, rec t = some l → (tyAgg P t = some false → ∃ kc, l = [(0, kc)] ∧ ∀ a b r, (cellEq kc a b = some r → (Op.equalIn D t a b).run P w = .ok r w)) ∧
      (tyAgg P t = some true → ∀ (us vs : Array Value) r, eqAll us.toList vs.toList l = some r → (Op.equalIn D t (.agg us) (.agg vs)).run P w = .ok r w)) :
    ∀ (fs : List Field) (l : List (Nat × Nat)) (r : Bool), leavesF P rec fs = some l → eqAll xs.toList ys.toList l = some r → (Op.eqFields D xs ys fs).run P w = .ok r w
  | [], l, r, hl, he => by
    simp only [leavesF, Option.some.injEq] at hl
    subst hl
    simp only [eqAll, Option.some.injEq] at he
    subst he
    rfl
  | f :: fs, l, r, hl, he => by
    simp only [leavesF] at hl
    split at hl
    · simp at hl
    · rename_i hname
      split at hl
      · rename_i m ag lf lr hm hag hlf hlr
        split at hl
        · rename_i hall
          obtain rfl := Option.some.inj hl
          rw [eqAll_append] at he
          split at he
          · rename_i r1 r2 h1 h2
            simp only [Option.some.injEq] at he
            subst he
            have hpart := fun zs : Array Value => run_part (cs := zs) (off := f.offset) hag hm w
            have hgo : ∃ A B, (part f.type xs f.offset).run P w = .ok A w ∧ (part f.type ys f.offset).run P w = .ok B w ∧ (Op.equalIn D f.type A B).run P w = .ok r1 w := by
              cases ag with
              | true =>
                refine ⟨_, _, by rw [hpart]; rfl, by rw [hpart]; rfl, ?_⟩
                refine (hrec f.type lf hlf).2 hag _ _ r1 ?_
                rw [eqAll_sub _ _ _ _ _ hall]
                exact h1
              | false =>
                obtain ⟨kc, hl0, hceq⟩ := (hrec f.type lf hlf).1 hag
                subst hl0
                simp only [List.map_cons, List.map_nil, Nat.add_zero, eqAll, cmpAt] at h1
                split at h1
                · rename_i a b hab hb
                  simp only [Option.some.injEq] at hb
                  subst hb
                  split at hab
                  · rename_i A B hA hB
                    simp only [Bool.and_true, Option.some.injEq] at h1
                    subst h1
                    refine ⟨A, B, ?_, ?_, hceq A B a hab⟩
                    · rw [hpart]
                      simp only [Array.getElem?_toList] at hA
                      simp [hA]
                    · rw [hpart]
                      simp only [Array.getElem?_toList] at hB
                      simp [hB]
                  · simp at hab
                · simp at h1
            obtain ⟨A, B, hA, hB, hE⟩ := hgo
            have ih := run_eqFields w D xs ys rec hrec fs lr r2 hlr h2
            simp only [Op.eqFields]
            rw [if_pos hname]
            simp only [Sem.run_bind, hA, hB, hE, Result.andThen_ok]
            cases r1
            · simp
            · simpa using ih
          · simp at he
        · simp at hl
      · simp at hl

theorem run_leaves {P : Program} (w : World) : ∀ (d D : Nat) (t : TypeId) (l : List (Nat × Nat)), d ≤ D → leaves P d t = some l →
    (tyAgg P t = some false → ∃ kc, l = [(0, kc)] ∧ ∀ a b r, (cellEq kc a b = some r → (Op.equalIn D t a b).run P w = .ok r w)) ∧
    (tyAgg P t = some true → ∀ (us vs : Array Value) r, eqAll us.toList vs.toList l = some r → (Op.equalIn D t (.agg us) (.agg vs)).run P w = .ok r w)
  | 0, D, t, l, hd, hl => by simp [leaves] at hl
  | d + 1, 0, t, l, hd, hl => by omega
  | d + 1, D + 1, t, l, hd, hl => by
    have ih := fun t l (h : leaves P d t = some l) => run_leaves w d D t l (by omega) h
    simp only [leaves] at hl
    split at hl
    · rename_i k hu
      obtain rfl := Option.some.inj hl
      refine ⟨fun _ => ⟨0, rfl, fun a b r h => ?_⟩, fun h => by simp [tyAgg, hu] at h⟩
      cases a <;> cases b <;> first | (simp [cellEq] at h; done) | skip
      simp only [cellEq] at h
      split at h
      · rename_i hk
        subst hk
        obtain rfl := Option.some.inj h
        exact run_equalIn_int w D t _ _ _ _ hu
      · simp at h
    · rename_i hu
      obtain rfl := Option.some.inj hl
      refine ⟨fun _ => ⟨1, rfl, fun a b r h => ?_⟩, fun h => by simp [tyAgg, hu] at h⟩
      cases a <;> cases b <;> first | (simp [cellEq] at h; done) | skip
      obtain rfl := Option.some.inj h
      exact run_equalIn_bool w D t _ _ hu
    · rename_i hu
      obtain rfl := Option.some.inj hl
      refine ⟨fun _ => ⟨2, rfl, fun a b r h => ?_⟩, fun h => by simp [tyAgg, hu] at h⟩
      cases a <;> cases b <;> first | (simp [cellEq] at h; done) | skip
      obtain rfl := Option.some.inj h
      exact run_equalIn_string w D t _ _ hu
    · rename_i fs hu
      split at hl
      · simp at hl
      · rename_i hp
        refine ⟨fun h => by simp [tyAgg, hu] at h, fun _ us vs r he => ?_⟩
        have hfo : P.fieldsOf t = fs := by simp [Program.fieldsOf, hu]
        rw [run_equalIn_struct w D t us vs (by rw [hfo]; exact hu) (by simpa using hp), hfo]
        exact run_eqFields w D us vs _ ih fs.toList l r hl he
    · rename_i n e hu
      split at hl
      · rename_i m ag lf hm hag hlf
        split at hl
        · rename_i hall
          obtain rfl := Option.some.inj hl
          refine ⟨fun h => by simp [tyAgg, hu] at h, fun _ us vs r he => ?_⟩
          have q := ih e lf hlf
          have hgo : ∀ (i : Nat) (r1 : Bool), eqAll us.toList vs.toList (lf.map fun p => (i * m + p.1, p.2)) = some r1 → ∃ A B, (part e us (i * m)).run P w = .ok A w ∧ (part e vs (i * m)).run P w = .ok B w ∧ (Op.equalIn D e A B).run P w = .ok r1 w := by
            intro i r1 e1
            have hpart := fun zs : Array Value => run_part (cs := zs) (off := i * m) hag hm w
            cases ag with
            | true =>
              refine ⟨_, _, by rw [hpart]; rfl, by rw [hpart]; rfl, ?_⟩
              refine q.2 hag _ _ r1 ?_
              rw [eqAll_sub _ _ _ _ _ hall]
              exact e1
            | false =>
              obtain ⟨kc, hl0, hc⟩ := q.1 hag
              subst hl0
              simp only [List.map_cons, List.map_nil, Nat.add_zero, eqAll, cmpAt] at e1
              split at e1
              · rename_i a b hab hb
                simp only [Option.some.injEq] at hb
                subst hb
                split at hab
                · rename_i A B hA hB
                  simp only [Bool.and_true, Option.some.injEq] at e1
                  subst e1
                  refine ⟨A, B, ?_, ?_, hc A B a hab⟩
                  · rw [hpart]
                    simp only [Array.getElem?_toList] at hA
                    simp [hA]
                  · rw [hpart]
                    simp only [Array.getElem?_toList] at hB
                    simp [hB]
                · simp at hab
              · simp at e1
          simp only [Op.equalIn, Sem.run_bind, run_underlying hu, Result.andThen_ok, run_sizeOf hm]
          rw [Std.Legacy.Range.forIn_eq_forIn_range']
          rw [List.range_eq_range'] at he
          have hrg : List.range' [:n].start [:n].size [:n].step = List.range' 0 n := by simp [Std.Legacy.Range.size]
          rw [hrg]
          generalize List.range' 0 n = is at he ⊢
          clear hrg hl ih q hu hlf
          induction is generalizing r with
          | nil =>
            simp only [List.flatMap_nil, eqAll, Option.some.injEq] at he
            subst he
            rfl
          | cons i is ihs =>
            rw [List.flatMap_cons, eqAll_append] at he
            split at he
            · rename_i r1 r2 e1 e2
              simp only [Option.some.injEq] at he
              subst he
              obtain ⟨A, B, hA, hB, hE⟩ := hgo i r1 e1
              have ih2 := ihs r2 e2
              simp only [List.forIn_cons, Sem.run_bind, hA, hB, hE, Result.andThen_ok]
              cases r1
              · simp
              · simp only [Bool.not_true, Bool.false_eq_true, if_false, Sem.run_pure, Result.andThen_ok, Bool.true_and]
                exact ih2
            · simp at he
        · simp at hl
      · simp at hl
    · simp at hl

section
variable {P : Program} {T : Tab} {fl : Nat} {env : Nat → Value} {H H' : Heap} {w0 w : World} {ρ : Nat → RB} {a : Act} {v : Value}

theorem eqAll_rel {N : Nat} {ρ : Nat → RB} {h : Array Obj} {xs xs' ys ys' : Array Value} (hx : VRel N ρ h (.agg xs) (.agg xs')) (hy : VRel N ρ h (.agg ys) (.agg ys')) : ∀ (l : List (Nat × Nat)) (r : Bool), eqAll xs.toList ys.toList l = some r → eqAll xs'.toList ys'.toList l = some r
  | [], r, he => he
  | o :: l, r, he => by
    cases hx with
    | agg _ _ hs hc =>
    cases hy with
    | agg _ _ hs2 hc2 =>
    simp only [eqAll] at he ⊢
    split at he
    · rename_i p q h1 h2
      have ih := eqAll_rel (.agg xs xs' hs hc) (.agg ys ys' hs2 hc2) l q h2
      have e1 : cmpAt xs'.toList ys'.toList o = some p := by
        unfold cmpAt at h1 ⊢
        split at h1
        · rename_i A B hA hB
          have hA' := hA
          have hB' := hB
          simp only [Array.getElem?_toList] at hA' hB'
          have i1 : o.1 < xs'.size := by have := (Array.getElem?_eq_some_iff.1 hA').1; omega
          have i2 : o.1 < ys'.size := by have := (Array.getElem?_eq_some_iff.1 hB').1; omega
          have r1 := hc _ _ _ hA' (Array.getElem?_eq_getElem i1)
          have r2 := hc2 _ _ _ hB' (Array.getElem?_eq_getElem i2)
          have s1 : isSc0 A = true ∧ isSc0 B = true := by
            unfold cellEq at h1
            split at h1 <;> first | exact ⟨rfl, rfl⟩ | simp at h1
          have t1 := r1.sc0 s1.1
          have t2 := r2.sc0 s1.2
          simp only [Array.getElem?_toList, Array.getElem?_eq_getElem i1, Array.getElem?_eq_getElem i2, t1, t2]
          exact h1
        · simp at h1
      rw [e1, ih]
      exact he
    · simp at he

theorem eqA_res (R : Rel w0 ρ H w) (E : ERel H.length ρ w.heap env a) {op : BinOp} {t : TypeId} {x y : Operand} {offs : List (Nat × Nat)} (hx : okX x = true) (hy : okX y = true) (hl : leaves P 20 t = some offs) (hag : tyAgg P t = some true) (hg : P.eqGuardType P.depth t = false) (hop : op = .eql ∨ op = .neq)
    (hs : (LO.eqA offs (op == .neq) x y).step P T fl env H = some (v, H')) :
    Res w0 ρ H w v H' ((do eqGuard op t x y (a.eval x) (a.eval y); binOp op t (a.eval x) (a.eval y) : Sem Value).run P w) := by
  have hv := E.ev hx
  have hv2 := E.ev hy
  simp only [LO.step] at hs
  split at hs
  · rename_i xs ys h1 h2
    simp only [Option.map_eq_some_iff, Prod.mk.injEq] at hs
    obtain ⟨b, hb, rfl, rfl⟩ := hs
    rw [h1] at hv
    rw [h2] at hv2
    generalize a.eval x = X at hv ⊢
    generalize a.eval y = Y at hv2 ⊢
    have hX : ∃ xs', X = .agg xs' := by cases hv; exact ⟨_, rfl⟩
    have hY : ∃ ys', Y = .agg ys' := by cases hv2; exact ⟨_, rfl⟩
    obtain ⟨xs', rfl⟩ := hX
    obtain ⟨ys', rfl⟩ := hY
    have he := eqAll_rel hv hv2 offs b hb
    have hq := (run_leaves (P := P) w 20 10000 t offs (by omega) hl).2 hag xs' ys' b he
    rcases hop with rfl | rfl
    · refine Res.same R ?_ (.bool _)
      rw [Sem.run_bind, run_eqGuard_agg w _ _ _ _ _ _ hg, Result.andThen_ok, run_eql_struct, hq]
      simp
    · refine Res.same R ?_ (.bool _)
      rw [Sem.run_bind, run_eqGuard_agg w _ _ _ _ _ _ hg, Result.andThen_ok, run_neq_struct, hq]
      simp
  · simp at hs

theorem bytesOf_get : ∀ (l : List Value) (bs : List UInt8), bytesOf l = some bs → bs.length = l.length ∧ l.all isSc0 = true ∧ ∀ i, i < l.length → ∃ n : Int, l[i]? = some (.int .u8 n) ∧ bs[i]? = some (UInt8.ofNat n.toNat)
  | [], bs, h => by simp only [bytesOf, Option.some.injEq] at h; subst h; exact ⟨rfl, rfl, fun i h => by simp at h⟩
  | v :: l, bs, h => by
    simp only [bytesOf] at h
    split at h
    · rename_i b r hb hr
      obtain rfl := Option.some.inj h
      obtain ⟨q1, q2, q3⟩ := bytesOf_get l r hr
      have hv : ∃ n, v = .int .u8 n ∧ b = UInt8.ofNat n.toNat := by
        unfold byteOf? at hb
        split at hb
        · exact ⟨_, rfl, (Option.some.inj hb).symm⟩
        · simp at hb
      obtain ⟨n, rfl, rfl⟩ := hv
      refine ⟨by simp [q1], by simp [isSc0, q2], fun i hi => ?_⟩
      cases i with
      | zero => exact ⟨n, rfl, rfl⟩
      | succ i => exact q3 i (by simpa using hi)
    · simp at h

theorem b2s_res (R : Rel w0 ρ H w) (E : ERel H.length ρ w.heap env a) {s d e : TypeId} {x : Operand} (hx : okX x = true) (hu : P.underlying s = some (.slice e)) (he : P.underlying e = some (.int .u8)) (hd : P.underlying d = some .string)
    (hs : (LO.b2s x).step P T fl env H = some (v, H')) : Res w0 ρ H w v H' ((convert s d (a.eval x)).run P w) := by
  have hv := E.ev hx
  simp only [LO.step] at hs
  generalize a.eval x = X at hv ⊢
  split at hs
  · rename_i n c hev
    simp only [Option.some.injEq, Prod.mk.injEq] at hs
    obtain ⟨rfl, rfl⟩ := hs
    rw [hev] at hv
    cases hv
    exact Res.same R (run_convert_bytes_nil w s e hu he 0 0 d hd) (.string _)
  · rename_i ad n c hev
    split at hs
    · rename_i cs hcs
      simp only [Option.map_eq_some_iff, Prod.mk.injEq] at hs
      obtain ⟨bs, hbs, rfl, rfl⟩ := hs
      rw [hev] at hv
      obtain ⟨b, hb, hsp, hle, rfl⟩ := rdN_some hcs
      obtain ⟨q1, q2, q3⟩ := bytesOf_get _ _ hbs
      cases hv with
      | slice id off g _ _ c' ra hid hg hn ha =>
        simp only at hb hle q1 q2 q3
        simp only [Option.some.injEq] at hsp
        have hgen : g = (ρ id).gen := by rw [(R.box id b hb).gen]; exact hsp
        obtain ⟨l', k1, k2, k3⟩ := R.cellsAt hb off n hle
        have hlen : ((b.cells.drop off).take n).length = n := by simp; omega
        have hcells : ∀ i, i < n → l'[i]? = ((b.cells.drop off).take n)[i]? := fun i hi => by
          have i1 : i < ((b.cells.drop off).take n).length := by omega
          have i2 : i < l'.length := by omega
          have r1 := k3.2 i _ _ (List.getElem?_eq_getElem i1) (List.getElem?_eq_getElem i2)
          rw [List.getElem?_eq_getElem i1, List.getElem?_eq_getElem i2]
          rw [r1.sc0 (List.all_eq_true.1 q2 _ (List.getElem_mem i1))]
        obtain ⟨xs, hxs⟩ : ∃ xs : List Int, xs = (List.range n).map fun i => match ((b.cells.drop off).take n)[i]? with | some (.int _ m) => m | _ => 0 := ⟨_, rfl⟩
        have hxl : xs.length = n := by simp [hxs]
        have hxg : ∀ i, i < n → ∃ m : Int, xs.getD i 0 = m ∧ l'[i]? = some (.int .u8 m) ∧ bs[i]? = some (UInt8.ofNat m.toNat) := fun i hi => by
          obtain ⟨m, m1, m2⟩ := q3 i (by omega)
          refine ⟨m, ?_, by rw [hcells i hi]; exact m1, m2⟩
          rw [hxs, List.getD_eq_getElem?_getD, List.getElem?_map, List.getElem?_range hi]
          simp only [Option.map_some, m1, Option.getD_some]
        have hbytes : (⟨bs.toArray⟩ : ByteArray) = strOfNums xs := by
          unfold strOfNums
          congr 2
          apply List.ext_getElem?
          intro i
          by_cases hi : i < n
          · obtain ⟨m, m1, m2, m3⟩ := hxg i hi
            rw [m3, List.getElem?_map]
            have : xs[i]? = some m := by
              rw [List.getD_eq_getElem?_getD, List.getElem?_eq_getElem (by omega)] at m1
              rw [List.getElem?_eq_getElem (by omega)]
              simpa using m1
            rw [this]
            rfl
          · rw [List.getElem?_eq_none (by omega), List.getElem?_eq_none (by simp; omega)]
        rw [hbytes]
        by_cases hc : 0 < c'
        · obtain rfl := (ha hgen).1 hc
          exact Res.same R (run_convert_bytes_arg w s e hu he _ _ n c' xs hxl (fun i hi => by
            obtain ⟨m, m1, m2, _⟩ := hxg i hi
            rw [m1]
            exact k2 i _ m2) d hd) (.string _)
        · have hn0 : n = 0 := by omega
          subst hn0
          have hx0 : xs = [] := List.eq_nil_of_length_eq_zero hxl
          subst hx0
          obtain ⟨rb, ro, rs⟩ := ra
          refine Res.same R ?_ (.string _)
          rw [run_convert_bytes_string w s d e _ 0 c' hu he hd, run_bytesToString w _ 0 c' [] (by simp [loadCells, loadCellsFrom])]
          simp [strOfNums, ByteArray.empty, ByteArray.emptyWithCapacity]
          rfl
    · simp at hs
  · simp at hs
end
end Go.Lev

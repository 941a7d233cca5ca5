/- Operations, the rest. -/
import Derived.Test.YtcaogimdpcaohaaDoorLev6
set_option linter.unusedVariables false
set_option linter.unusedSimpArgs false
namespace Go.Lev
open Go Go.RowKit

section
variable {P : Program} {T : Tab} {fl : Nat} {env : Nat → Value} {H H' : Heap} {w0 w : World} {ρ : Nat → RB} {a : Act} {v : Value}

theorem index_res (R : Rel w0 ρ H w) (E : ERel H.length ρ w.heap env a) {t : TypeId} {x y : Operand} {lo : LO} (hx : okX x = true) (hy : okX y = true) (hc : cIndex P t x y = some lo) (hs : lo.step P T fl env H = some (v, H')) :
    Res w0 ρ H w v H' ((Instr.index t (a.eval x) (a.eval y)).run P w) := by
  have hv := E.ev hx
  have hv2 := E.ev hy
  unfold cIndex at hc
  split at hc
  · rename_i len e hu
    split at hc
    · rename_i ha hn
      obtain rfl := Option.some.inj hc
      simp only [LO.step] at hs
      split at hs
      · rename_i cs k i hev hev2
        split at hs
        · rename_i hb
          simp only [Option.map_eq_some_iff, Prod.mk.injEq] at hs
          obtain ⟨u, hu', rfl, rfl⟩ := hs
          rw [hev] at hv
          rw [hev2] at hv2
          have e2 := int_of hv2
          generalize a.eval x = X at hv ⊢
          cases hv with
          | agg _ cs' hsz hcc =>
            have hi : i.toNat < cs'.size := by have := (Array.getElem?_eq_some_iff.1 hu').1; omega
            refine Res.same R (v' := cs'[i.toNat]) ?_ (hcc _ _ _ hu' (Array.getElem?_eq_getElem hi))
            rw [e2]
            simp [Instr.index, asIntOf, run_underlying hu, hb, run_sizeOf hn, run_part ha hn, hi]
        · simp at hs
      · simp at hs
    · rename_i n ha hn
      obtain rfl := Option.some.inj hc
      simp only [LO.step] at hs
      split at hs
      · rename_i cs k i hev hev2
        split at hs
        · rename_i hb
          simp only [Option.some.injEq, Prod.mk.injEq] at hs
          obtain ⟨rfl, rfl⟩ := hs
          rw [hev] at hv
          rw [hev2] at hv2
          have e2 := int_of hv2
          generalize a.eval x = X at hv ⊢
          cases hv with
          | agg _ cs' hsz hcc =>
            refine Res.same R (v' := .agg (cs'.extract (i.toNat * n) (i.toNat * n + n))) ?_ (LRel.extract hsz hcc _ _)
            rw [e2]
            simp [Instr.index, asIntOf, run_underlying hu, hb, run_sizeOf hn, run_part ha hn]
        · simp at hs
      · simp at hs
    · simp at hc
  · rename_i hu
    obtain rfl := Option.some.inj hc
    simp only [LO.step] at hs
    split at hs
    · rename_i s k i hev hev2
      split at hs
      · rename_i hb
        simp only [Option.map_eq_some_iff, Prod.mk.injEq] at hs
        obtain ⟨u, hu', rfl, rfl⟩ := hs
        rw [hev] at hv
        rw [hev2] at hv2
        have e2 := int_of hv2
        generalize a.eval x = X at hv ⊢
        cases hv with
        | string _ =>
          refine Res.same R ?_ (.int _ _)
          rw [e2]
          have hg : s[i.toNat]? = some u := by
            have := (List.getElem?_eq_some_iff.1 hu')
            obtain ⟨h1, h2⟩ := this
            have h3 : i.toNat < s.size := by simpa using h1
            rw [getElem?_pos s i.toNat h3]
            congr 1
          simp [Instr.index, asIntOf, run_underlying hu, hb, hg]
      · simp at hs
    · simp at hs
  · simp at hc

theorem binInt_run (op : BinOp) (k : IntKind) (x y : Int) (v : Value) (h : binInt op k x y = some v) (hs : isShift op = false) (t : TypeId) : (binOp op t (.int k x) (.int k y)).run P w = .ok v w := by
  cases op <;> simp_all [binInt, binOp, Op.intArith, Op.intDiv, Op.intBits, Op.intCmp, isShift]
  all_goals (split at h <;> simp_all)

theorem binShift_run (op : BinOp) (k k' : IntKind) (x y : Int) (v : Value) (h : binShift op k x y = some v) (hs : isShift op = true) (t : TypeId) : (binOp op t (.int k x) (.int k' y)).run P w = .ok v w := by
  unfold binShift at h
  split at h
  · simp at h
  · rename_i hy
    cases op <;> simp_all [binOp, Op.shift, isShift] <;> (intro hlt; omega)

theorem binStr_run (op : BinOp) (x y : ByteArray) (v : Value) (h : binStr op x y = some v) (t : TypeId) : (binOp op t (.string x) (.string y)).run P w = .ok v w := by
  cases op <;> simp_all [binStr, binOp, Op.stringOp]
  obtain ⟨hle, rfl⟩ := h
  have hm : IntKind.i64.max = 9223372036854775807 := by decide
  have : ¬ (IntKind.i64.max < (x.size : Int) + (y.size : Int)) := by
    omega
  simp [this]
  all_goals omega

theorem run_equal_bool {t : TypeId} (hu : P.underlying t = some .bool) (x y : Bool) : (Op.equal t (.bool x) (.bool y)).run P w = .ok (x == y) w := by
  show (Op.equalIn (9999 + 1) t (.bool x) (.bool y)).run P w = _
  rw [Op.equalIn]
  simp [run_underlying hu]

theorem eqGuard_int (op : BinOp) (t : TypeId) (x y : Operand) (A B : Value) (h1 : A ≠ .nilIface) (h2 : ∀ cs, A ≠ .agg cs) : (eqGuard op t x y A B).run P w = .ok () w := by
  cases op <;> cases A <;> first | rfl | exact absurd rfl h1 | exact absurd rfl (h2 _) | (cases B <;> rfl)

theorem bin_res (R : Rel w0 ρ H w) (E : ERel H.length ρ w.heap env a) {op : BinOp} {t : TypeId} {x y : Operand} (hx : okX x = true) (hy : okX y = true)
    (hs : (LO.bin op x y).step P T fl env H = some (v, H')) :
    Res w0 ρ H w v H' ((do eqGuard op t x y (a.eval x) (a.eval y); binOp op t (a.eval x) (a.eval y) : Sem Value).run P w) := by
  have hv := E.ev hx
  have hv2 := E.ev hy
  simp only [LO.step, Option.map_eq_some_iff, Prod.mk.injEq] at hs
  obtain ⟨u, hb, rfl, rfl⟩ := hs
  generalize a.eval x = X at hv ⊢
  generalize a.eval y = Y at hv2 ⊢
  generalize evO env x = X0 at hv hb
  generalize evO env y = Y0 at hv2 hb
  unfold binV at hb
  split at hb
  · rename_i k n k' n'
    obtain rfl := int_of hv
    obtain rfl := int_of hv2
    have hg : (eqGuard op t x y (.int k n) (.int k' n')).run P w = .ok () w := eqGuard_int op t x y _ _ (by simp) (by simp)
    split at hb
    · rename_i hsh
      refine Res.same R (v' := u) ?_ ?_
      · rw [Sem.run_bind, hg]
        exact binShift_run op k k' n n' u hb hsh t
      · unfold binShift at hb
        split at hb
        · simp at hb
        · split at hb <;> first | (simp at hb; done) | (obtain rfl := Option.some.inj hb; exact .int _ _)
    · rename_i hsh
      split at hb
      · rename_i hk
        subst hk
        refine Res.same R (v' := u) ?_ ?_
        · rw [Sem.run_bind, hg]
          exact binInt_run op k n n' u hb (by simpa using hsh) t
        · unfold binInt at hb
          split at hb <;> first | (simp at hb; done) | (obtain rfl := Option.some.inj hb; first | exact .int _ _ | exact .bool _) | (split at hb <;> first | (simp at hb; done) | (obtain rfl := Option.some.inj hb; exact .int _ _))
      · simp at hb
  · rename_i s s'
    cases hv
    cases hv2
    have hg : (eqGuard op t x y (.string s) (.string s')).run P w = .ok () w := eqGuard_int op t x y _ _ (by simp) (by simp)
    refine Res.same R (v' := u) ?_ ?_
    · rw [Sem.run_bind, hg]
      exact binStr_run op s s' u hb t
    · unfold binStr at hb
      split at hb
      · split at hb
        · obtain rfl := Option.some.inj hb; exact .string _
        · simp at hb
      · obtain rfl := Option.some.inj hb; exact .bool _
      · obtain rfl := Option.some.inj hb; exact .bool _
      · simp at hb
  · simp at hb

theorem binB_res (R : Rel w0 ρ H w) (E : ERel H.length ρ w.heap env a) {op : BinOp} {t : TypeId} {x y : Operand} (hx : okX x = true) (hy : okX y = true) (hu : P.underlying t = some .bool)
    (hs : (LO.binB op x y).step P T fl env H = some (v, H')) :
    Res w0 ρ H w v H' ((do eqGuard op t x y (a.eval x) (a.eval y); binOp op t (a.eval x) (a.eval y) : Sem Value).run P w) := by
  have hv := E.ev hx
  have hv2 := E.ev hy
  simp only [LO.step, Option.map_eq_some_iff, Prod.mk.injEq] at hs
  obtain ⟨u, hb, rfl, rfl⟩ := hs
  generalize a.eval x = X at hv ⊢
  generalize a.eval y = Y at hv2 ⊢
  generalize evO env x = X0 at hv hb
  generalize evO env y = Y0 at hv2 hb
  unfold Lev.binB at hb
  split at hb
  · rename_i b b'
    cases hv
    cases hv2
    have hg : (eqGuard op t x y (.bool b) (.bool b')).run P w = .ok () w := eqGuard_int op t x y _ _ (by simp) (by simp)
    split at hb
    · obtain rfl := Option.some.inj hb
      refine Res.same R ?_ (.bool _)
      rw [Sem.run_bind, hg]
      simp [binOp, run_equal_bool hu]
    · obtain rfl := Option.some.inj hb
      refine Res.same R ?_ (.bool _)
      rw [Sem.run_bind, hg]
      simp [binOp, run_equal_bool hu]
    · simp at hb
  · simp at hb

theorem un_res (R : Rel w0 ρ H w) (E : ERel H.length ρ w.heap env a) {op : UnOp} {x : Operand} (hx : okX x = true) (hs : (LO.un op x).step P T fl env H = some (v, H')) :
    Res w0 ρ H w v H' ((Op.unary op (a.eval x)).run P w) := by
  have hv := E.ev hx
  simp only [LO.step, Option.map_eq_some_iff, Prod.mk.injEq] at hs
  obtain ⟨u, hb, rfl, rfl⟩ := hs
  generalize a.eval x = X at hv ⊢
  generalize evO env x = X0 at hv hb
  unfold unV at hb
  split at hb
  · obtain rfl := Option.some.inj hb
    obtain rfl := int_of hv
    exact Res.same R (by simp [Op.unary, Op.intArith]) (.int _ _)
  · obtain rfl := Option.some.inj hb
    obtain rfl := int_of hv
    exact Res.same R (by simp [Op.unary, Op.intBits]) (.int _ _)
  · obtain rfl := Option.some.inj hb
    cases hv
    exact Res.same R (by simp [Op.unary]) (.bool _)
  · simp at hb

end
end Go.Lev

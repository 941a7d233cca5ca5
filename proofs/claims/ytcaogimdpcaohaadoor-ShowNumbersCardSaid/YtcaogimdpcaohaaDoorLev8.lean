/- Operations, the last ones; all of them together. -/
import Derived.Test.YtcaogimdpcaohaaDoorLev7e
set_option linter.unusedVariables false
set_option linter.unusedSimpArgs false
namespace Go.Lev
open Go Go.RowKit

theorem pureRun_run {P : Program} {α : Type} (s : Sem α) (r : α) (h : pureRun P s = some r) (w : World) : s.run P w = .ok r w := by
  induction s with
  | pure b =>
    simp only [pureRun, Option.some.injEq] at h
    rw [h]
    rfl
  | program k ih =>
    simp only [pureRun] at h
    exact ih P h
  | _ => simp [pureRun] at h

section
variable {P : Program} {T : Tab} {fl : Nat} {env : Nat → Value} {H H' : Heap} {w0 w : World} {ρ : Nat → RB} {a : Act} {v : Value}

theorem equal_unfold (t : TypeId) (x y : Value) : Op.equal t x y = Op.equalIn (9999 + 1) t x y := rfl

theorem run_nil_eq {t : TypeId} {y : Operand} (hn : nilTy P t y = true) {A A0 : Value} {b : Bool} (hA : isNilV A0 = some b) (hv : VRel H.length ρ w.heap A0 A) (hfit : nilFit P t A0 = true) :
    (Op.equal t A (a.eval y)).run P w = .ok b w := by
  unfold nilTy at hn
  rw [equal_unfold, Op.equalIn]
  split at hn
  all_goals first | (simp at hn; done) | skip
  all_goals
    rename_i e hu
    simp only [nilFit, nilK, hu] at hfit
    cases hv <;> first | (simp [isKind] at hfit; done) | (simp [isNilV] at hA; done) | (simp only [isNilV, Option.some.injEq] at hA; subst hA; simp [Act.eval, run_underlying hu]; done)

theorem isNil_res (R : Rel w0 ρ H w) (E : ERel H.length ρ w.heap env a) {op : BinOp} {t : TypeId} {x y : Operand} (hx : okX x = true) (hn : nilTy P t y = true) (hop : op = .eql ∨ op = .neq)
    (hs : (LO.isNil (nilK P t) (op == .neq) x).step P T fl env H = some (v, H')) :
    Res w0 ρ H w v H' ((do eqGuard op t x y (a.eval x) (a.eval y); binOp op t (a.eval x) (a.eval y) : Sem Value).run P w) := by
  have hv := E.ev hx
  simp only [LO.step] at hs
  split at hs
  · rename_i hfit
    simp only [Option.map_eq_some_iff, Prod.mk.injEq] at hs
    obtain ⟨b, hb, rfl, rfl⟩ := hs
    have hq := run_nil_eq (a := a) hn hb hv hfit
    have hy : ∃ c, y = .const c := by
      unfold nilTy at hn
      split at hn <;> first | exact ⟨_, rfl⟩ | simp at hn
    obtain ⟨c, rfl⟩ := hy
    have hg : (eqGuard op t x (.const c) (a.eval x) (a.eval (.const c))).run P w = .ok () w := by
      generalize a.eval x = X at hv ⊢
      generalize evO env x = X0 at hv hb
      cases hv <;> rcases hop with rfl | rfl <;> simp [isNilV] at hb <;> cases c <;> first | rfl | (cases x <;> rfl)
    have hb2 : ∀ (A B : Value), isNilV A = some b → (binOp .eql t A B = (do pure (.bool (← Op.equal t A B)) : Sem Value)) ∧ (binOp .neq t A B = (do pure (.bool (!(← Op.equal t A B))) : Sem Value)) := by
      intro A B hA
      cases A <;> cases B <;> first | exact ⟨rfl, rfl⟩ | simp [isNilV] at hA
    have hA : isNilV (a.eval x) = some b := by
      generalize a.eval x = X at hv ⊢
      generalize evO env x = X0 at hv hb
      cases hv <;> simp_all [isNilV]
    rcases hop with rfl | rfl
    · refine Res.same R ?_ (.bool _)
      rw [Sem.run_bind, hg, Result.andThen_ok, (hb2 _ _ hA).1]
      simp [hq]
    · refine Res.same R ?_ (.bool _)
      rw [Sem.run_bind, hg, Result.andThen_ok, (hb2 _ _ hA).2]
      simp [hq]
  · simp at hs

theorem conv_res (R : Rel w0 ρ H w) (E : ERel H.length ρ w.heap env a) {o : Oper} {s d : TypeId} {x : Operand} {lo : LO} (hx : okX x = true) (hc : cConv P o s d x = some lo) (hpr : lo ≠ .pr o) (hs : lo.step P T fl env H = some (v, H')) :
    Res w0 ρ H w v H' ((convert s d (a.eval x)).run P w) := by
  have hv := E.ev hx
  unfold cConv at hc
  split at hc
  · rename_i k0 k hu hu2
    obtain rfl := Option.some.inj hc
    simp only [LO.step] at hs
    split at hs
    · rename_i k1 n hev
      simp only [Option.some.injEq, Prod.mk.injEq] at hs
      obtain ⟨rfl, rfl⟩ := hs
      rw [hev] at hv
      rw [int_of hv]
      exact Res.same R (by simp [convert, run_underlying hu, run_underlying hu2, Conv.intToInt]) (.int _ _)
    · simp at hs
  · rename_i k0 k hu hu2
    obtain rfl := Option.some.inj hc
    simp only [LO.step] at hs
    split at hs
    · rename_i k1 n hev
      simp only [Option.some.injEq, Prod.mk.injEq] at hs
      obtain ⟨rfl, rfl⟩ := hs
      rw [hev] at hv
      rw [int_of hv]
      exact Res.same R (by simp [convert, run_underlying hu, run_underlying hu2, Conv.intToFloat]) (.float _ _)
    · simp at hs
  · rename_i hu hu2
    obtain rfl := Option.some.inj hc
    simp only [LO.step] at hs
    split at hs
    · rename_i s0 hev
      simp only [Option.some.injEq, Prod.mk.injEq] at hs
      obtain ⟨rfl, rfl⟩ := hs
      rw [hev] at hv
      generalize a.eval x = X at hv ⊢
      cases hv
      exact Res.same R (by simp [convert, run_underlying hu, run_underlying hu2]) (.string _)
    · simp at hs
  · obtain rfl := Option.some.inj hc
    exact absurd rfl hpr
  · rename_i e hu hd
    split at hc
    · rename_i he _
      obtain rfl := Option.some.inj hc
      exact b2s_res R E hx hu he hd hs
    · simp at hc
  · simp at hc

theorem mkI_res (R : Rel w0 ρ H w) (E : ERel H.length ρ w.heap env a) {t : TypeId} {x : Operand} {lo : LO} (hx : okX x = true) (hc : cMkI P t x = some lo) (hs : lo.step P T fl env H = some (v, H')) :
    Res w0 ρ H w v H' ((Instr.makeInterface t (a.eval x)).run P w) := by
  have hv := E.ev hx
  unfold cMkI at hc
  split at hc
  · simp at hc
  · rename_i d hni hu
    obtain rfl := Option.some.inj hc
    simp only [LO.step, Option.some.injEq, Prod.mk.injEq] at hs
    obtain ⟨rfl, rfl⟩ := hs
    refine Res.same R (v' := .iface t (a.eval x)) ?_ (.iface _ _ _ hv)
    unfold Instr.makeInterface
    rw [Sem.run_bind, run_underlying hu]
    simp only [Result.andThen_ok]
    cases d <;> first | rfl | exact absurd hu (hni _)
  · simp at hc

theorem mkf_res (R : Rel w0 ρ H w) (E : ERel H.length ρ w.heap env a) {f : FuncId} {fs cs : Array Operand} (h1 : ∀ x ∈ fs, okX x = true) (h2 : ∀ x ∈ cs, okX x = true) (hs : (LO.mkf f fs.toList cs.toList).step P T fl env H = some (v, H')) :
    Res w0 ρ H w v H' ((Instr.makeFunc (.func f) (fs.map a.eval) (cs.map a.eval)).run P w) := by
  simp only [LO.step, Option.some.injEq, Prod.mk.injEq] at hs
  obtain ⟨rfl, rfl⟩ := hs
  refine Res.same R (v' := .func (.func f) (fs.map a.eval) (cs.map a.eval)) rfl (.func _ _ _ _ _ (by simp) (fun i u u' hi hi' => ?_) (by simp) fun i u u' hi hi' => ?_)
  · simp only [List.getElem?_toArray, List.getElem?_map, Array.getElem?_toList, Option.map_eq_some_iff] at hi
    obtain ⟨x, hx, rfl⟩ := hi
    simp only [Array.getElem?_map, hx, Option.map_some, Option.some.injEq] at hi'
    subst hi'
    exact E.ev (h1 x (Array.mem_of_getElem? hx))
  · simp only [List.getElem?_toArray, List.getElem?_map, Array.getElem?_toList, Option.map_eq_some_iff] at hi
    obtain ⟨x, hx, rfl⟩ := hi
    simp only [Array.getElem?_map, hx, Option.map_some, Option.some.injEq] at hi'
    subst hi'
    exact E.ev (h2 x (Array.mem_of_getElem? hx))

theorem ext_res (R : Rel w0 ρ H w) (E : ERel H.length ρ w.heap env a) {x : Operand} {i : Nat} (hx : okX x = true) (hs : (LO.ext x i).step P T fl env H = some (v, H')) :
    Res w0 ρ H w v H' ((Instr.extract (a.eval x) i).run P w) := by
  have hv := E.ev hx
  simp only [LO.step] at hs
  split at hs
  · rename_i vs hev
    simp only [Option.map_eq_some_iff, Prod.mk.injEq] at hs
    obtain ⟨u, hu, rfl, rfl⟩ := hs
    rw [hev] at hv
    generalize a.eval x = X at hv ⊢
    cases hv with
    | tuple _ cs' hsz hcc =>
      have hi : i < cs'.size := by have := (Array.getElem?_eq_some_iff.1 hu).1; omega
      exact Res.same R (v' := cs'[i]) (by simp [Instr.extract, hi]) (hcc _ _ _ hu (Array.getElem?_eq_getElem hi))
  · simp at hs

theorem mk_res (R : Rel w0 ρ H w) (E : ERel H.length ρ w.heap env a) {t : TypeId} {x y : Operand} {lo : LO} (hx : okX x = true) (hy : okX y = true) (hc : cMk P t x y = some lo) (hs : lo.step P T fl env H = some (v, H')) :
    Res w0 ρ H w v H' ((Instr.makeSlice t (a.eval x) (a.eval y)).run P w) := by
  have hv := E.ev hx
  have hv2 := E.ev hy
  unfold cMk at hc
  split at hc
  · rename_i e hu
    split at hc
    · rename_i i hi
      split at hc
      · rename_i z hz
        split at hc
        · rename_i hcc
          obtain ⟨hall, hzs⟩ := hcc
          obtain rfl := Option.some.inj hc
          simp only [LO.step] at hs
          split at hs
          · rename_i n c hev hev2
            split at hs
            · rename_i hcond
              obtain ⟨rfl, h0, hb, hlim, hesz, hzl⟩ := hcond
              simp only [Option.some.injEq, Prod.mk.injEq] at hs
              obtain ⟨rfl, rfl⟩ := hs
              rw [hev] at hv
              rw [hev2] at hv2
              rw [int_of hv, int_of hv2]
              obtain ⟨m, rfl⟩ := Int.eq_ofNat_of_zero_le h0
              have hw : IntKind.i64.wrap (m : Int) = m := by
                have hb1 : IntKind.i64.bits = 64 := rfl
                have hb2 : IntKind.i64.signed = true := rfl
                unfold IntKind.wrap
                simp only [hb1, hb2, Bool.true_and]
                have : ((m : Int) % 2 ^ 64) = m := Int.emod_eq_of_lt (by omega) (by omega)
                rw [this]
                split
                · rename_i hq
                  simp at hq
                  omega
                · rfl
              have hz0 : 0 < z.cells.size := by omega
              have hl : LRel H.length ρ w.heap (zeroRow z.cells.toList (m * i.size)) ((Array.range (m * i.size)).map (z.cells[· % z.cells.size]!)).toList := by
                rw [zeroRow_eq _ _ hz0]
                exact .ofSc0 (zeroRow_sc _ _ hall (by simpa using hz0))
              have hcells : ((List.range ((m : Int).toNat * i.size)).map fun j => z.cells.toList.getD (j % i.size) undef) = zeroRow z.cells.toList (m * i.size) := by
                unfold zeroRow
                simp only [Int.toNat_natCast, Array.length_toList, hzs]
              rw [hcells]
              obtain ⟨ρ', k1, k2, k3⟩ := R.push { cells := zeroRow z.cells.toList (m * i.size), gen := 0, row := i.size } rfl rfl ((Array.range (m * i.size)).map (z.cells[· % z.cells.size]!)) e (fun j u hj => by
                obtain ⟨u', q1, q2⟩ := hl.get hj
                exact ⟨u', by rw [← Array.getElem?_toList]; exact q1, q2⟩)
              refine ⟨.slice (some ⟨w.heap.size, 0, none⟩) m m, _, ρ', ?_, ?_, k2, k3⟩
              · have hb' : ¬ ((i.bytes : Int) * (m : Int) > 281474976710656) := by
                  rw [Int.mul_comm]
                  omega
                have hzv : tyZero P e = some z := by simp [tyZero, hi, hz]
                have hsv : tySize P e = some i.size := by simp [tySize, hi]
                unfold Instr.makeSlice
                simp only [Sem.run_bind, run_underlying hu, Result.andThen_ok, asInt, asIntOf, Sem.run_pure, typeInfo, run_program, hi, hw]
                have hc1 : ((decide ((m : Int) < 0) || decide ((i.bytes : Int) * (m : Int) > 2 ^ 48)) || decide ((m : Int) < 0) || decide ((m : Int) > (m : Int))) = false := by
                  simp
                  omega
                simp only [hc1, Bool.false_eq_true, if_false, Sem.run_bind, run_askRoom, Result.andThen_ok, run_sizeOf hsv, Int.toNat_natCast]
                by_cases hn0 : m * i.size = 0
                · have e0 : ((Array.range (m * i.size)).map (z.cells[· % z.cells.size]!)) = ((Array.range (m * i.size)).map ((#[] : Array Value)[· % (#[] : Array Value).size]!)) := by rw [hn0]; simp
                  rw [e0]
                  simp [hn0, newRow]
                · simp [hn0, run_zeroValue hzv, newRow]
              · simp only [Int.toNat_natCast]
                refine .slice _ _ _ _ _ _ _ (by simp) (by omega) (Nat.le_refl _) fun _ => ⟨fun _ => by rw [k1], fun _ _ _ => ?_⟩
                rw [k1]
                simp
            · simp at hs
          · simp at hs
        · simp at hc
      · simp at hc
    · simp at hc
  · simp at hc

end
end Go.Lev

/- All operations that are no calls of functions. -/
import Derived.Test.YtcaogimdpcaohaaDoorLev9
set_option linter.unusedVariables false
set_option linter.unusedSimpArgs false
namespace Go.Lev
open Go Go.RowKit

section
variable {P : Program} {T : Tab} {fl : Nat} {env : Nat → Value} {H H' : Heap} {w0 w : World} {ρ : Nat → RB} {a : Act} {v : Value}

theorem len_res (R : Rel w0 ρ H w) (E : ERel H.length ρ w.heap env a) {ts : Array TypeId} {ty : TypeId} {xs : Array Operand} {lo : LO} (hx : ∀ x ∈ xs, okX x = true) (hc : cLen P ts.toList xs.toList = some lo) (hs : lo.step P T fl env H = some (v, H')) :
    Res w0 ρ H w v H' ((Builtin.len_ ts ty (xs.map a.eval)).run P w) := by
  unfold cLen at hc
  split at hc
  · rename_i t x ht hxs
    have ht' : ts = #[t] := by apply Array.ext'; simpa using ht
    have hx' : xs = #[x] := by apply Array.ext'; simpa using hxs
    subst ht' hx'
    have hv := E.ev (hx x (by simp))
    split at hc
    · rename_i hu
      obtain rfl := Option.some.inj hc
      simp only [LO.step] at hs
      split at hs
      · rename_i s hev
        simp only [Option.some.injEq, Prod.mk.injEq] at hs
        obtain ⟨rfl, rfl⟩ := hs
        rw [hev] at hv
        simp only [List.map_toArray, List.map_cons, List.map_nil]
        generalize a.eval x = X at hv ⊢
        cases hv
        exact Res.same R (by simp [Builtin.len_, run_underlying hu, goInt]) (.int _ _)
      · simp at hs
    · rename_i e hu
      obtain rfl := Option.some.inj hc
      simp only [LO.step] at hs
      split at hs
      · rename_i a0 n c hev
        simp only [Option.some.injEq, Prod.mk.injEq] at hs
        obtain ⟨rfl, rfl⟩ := hs
        rw [hev] at hv
        simp only [List.map_toArray, List.map_cons, List.map_nil]
        generalize a.eval x = X at hv ⊢
        cases hv <;> exact Res.same R (by simp [Builtin.len_, run_underlying hu, goInt]) (.int _ _)
      · simp at hs
    · rename_i n e hu
      obtain rfl := Option.some.inj hc
      simp only [LO.step, Option.some.injEq, Prod.mk.injEq] at hs
      obtain ⟨rfl, rfl⟩ := hs
      simp only [List.map_toArray, List.map_cons, List.map_nil]
      exact Res.same R (by simp [Builtin.len_, run_underlying hu, goInt]) (.int _ _)
    · simp at hc
  · simp at hc

theorem appb_res (R : Rel w0 ρ H w) (E : ERel H.length ρ w.heap env a) {ts : Array TypeId} {ty : TypeId} {xs : Array Operand} {lo : LO} (hx : ∀ x ∈ xs, okX x = true) (hc : cApp P ts.toList xs.toList = some lo) (hs : lo.step P T fl env H = some (v, H')) :
    Res w0 ρ H w v H' ((Builtin.append_ ts ty (xs.map a.eval)).run P w) := by
  unfold cApp at hc
  split at hc
  · rename_i t tx s x ht hxs
    have ht' : ts = #[t, tx] := by apply Array.ext'; simpa using ht
    have hx' : xs = #[s, x] := by apply Array.ext'; simpa using hxs
    subst ht' hx'
    have hv := E.ev (hx s (by simp))
    have hv2 := E.ev (hx x (by simp))
    split at hc
    · rename_i e e' hu hu2
      split at hc
      · rename_i i hi
        split at hc
        · rename_i z hz
          split at hc
          · rename_i hzs
            obtain rfl := Option.some.inj hc
            simp only [LO.step] at hs
            simp only [List.map_toArray, List.map_cons, List.map_nil]
            exact app_res R hs hv hv2 hu hu2 hi hz rfl hzs rfl
          · simp at hc
        · simp at hc
      · simp at hc
    · simp at hc
  · simp at hc

theorem lenOf_slice (x : Option Addr) (n c : Nat) (w : World) : (Builtin.lenOf (.slice x n c)).run P w = .ok n w := rfl

theorem cpy_res (R : Rel w0 ρ H w) (E : ERel H.length ρ w.heap env a) {ts : Array TypeId} {ty : TypeId} {xs : Array Operand} {lo : LO} (hx : ∀ x ∈ xs, okX x = true) (hc : cCpy P ts.toList xs.toList = some lo) (hs : lo.step P T fl env H = some (v, H')) :
    Res w0 ρ H w v H' ((Builtin.copy_ ts ty (xs.map a.eval)).run P w) := by
  unfold cCpy at hc
  split at hc
  · rename_i t tx d s ht hxs
    have ht' : ts = #[t, tx] := by apply Array.ext'; simpa using ht
    have hx' : xs = #[d, s] := by apply Array.ext'; simpa using hxs
    subst ht' hx'
    have hv := E.ev (hx d (by simp))
    have hv2 := E.ev (hx s (by simp))
    split at hc
    · rename_i e e' hu hu2
      split at hc
      · rename_i i hi
        obtain rfl := Option.some.inj hc
        have hsz : tySize P e = some i.size := by simp [tySize, hi]
        simp only [LO.step] at hs
        simp only [List.map_toArray, List.map_cons, List.map_nil]
        generalize a.eval d = D at hv ⊢
        generalize a.eval s = S at hv2 ⊢
        split at hs
        · rename_i p hsrc hevd
          obtain ⟨ys, m⟩ := p
          simp only [Option.some.injEq, Prod.mk.injEq] at hs
          obtain ⟨rfl, rfl⟩ := hs
          rw [hevd] at hv
          cases hv
          have hn : ∃ (A : Option Addr) (n c : Nat), S = .slice A n c := by
            generalize evO env s = S0 at hv2 hsrc
            cases hv2 <;> first | exact ⟨_, _, _, rfl⟩ | simp [srcCells] at hsrc
          obtain ⟨A, n, c, rfl⟩ := hn
          refine Res.same R (v' := .int .i64 0) ?_ (.int _ _)
          have hfc : ∀ w' : World, (Builtin.firstCells i.size 0 (.slice A n c)).run P w' = .ok #[] w' := fun w' => by
            cases A with
            | none => simp [Builtin.firstCells]
            | some x => simp [Builtin.firstCells, loadCells, loadCellsFrom]
          simp [Builtin.copy_, run_underlying hu, lenOf_slice, run_sizeOf hsz, hfc, goInt]
        · rename_i ys m ad n c hsrc hevd
          rw [hevd] at hv
          simp only [Option.map_eq_some_iff, Prod.mk.injEq] at hs
          obtain ⟨K, hK, rfl, rfl⟩ := hs
          have hone : (ys.take (Nat.min m n * i.size)).all Value.oneCell' = true := (wrN_some hK).choose_spec.2.2.2.2.2.1
          -- the source's cells, in the world
          have hS : ∃ (A : Option Addr) (c' : Nat) (news : List Value), S = .slice A m c' ∧ LRel H.length ρ w.heap (ys.take (Nat.min m n * i.size)) news ∧ (Builtin.firstCells i.size (Nat.min m n) (.slice A m c')).run P w = .ok news.toArray w := by
            generalize evO env s = S0 at hv2 hsrc
            have hmul : Nat.min m n * i.size ≤ m * i.size := Nat.mul_le_mul_right _ (Nat.min_le_left _ _)
            cases hv2 with
            | sliceNil =>
              simp [srcCells] at hsrc
              obtain ⟨rfl, rfl⟩ := hsrc
              exact ⟨none, 0, [], rfl, by simpa using LRel.nil _ _ _, by simp [Builtin.firstCells]⟩
            | slice id off g n' c c' a hid hg hn ha =>
              simp only [srcCells, Option.map_eq_some_iff, Prod.mk.injEq] at hsrc
              obtain ⟨l, hl, rfl, rfl⟩ := hsrc
              obtain ⟨b, hb, hs, hle, rfl⟩ := rdN_some hl
              simp only [Option.some.injEq] at hs
              simp only at hb hle
              have hgen : g = (ρ id).gen := by rw [(R.box id b hb).gen]; exact hs
              obtain ⟨l', k1, k2, k3⟩ := R.cellsAt hb off (Nat.min n' n * i.size) (by omega)
              refine ⟨some a, c', l', rfl, ?_, ?_⟩
              · rw [List.take_take, Nat.min_eq_left hmul]
                exact k3
              · refine run_firstCells_some w i.size _ a n' c' l' k1 fun j u hj => ?_
                have hc : 0 < c' := by
                  rcases Nat.eq_zero_or_pos c' with h | h
                  · exfalso
                    have hn0 : n' = 0 := by omega
                    have hz : Nat.min n' n = 0 := by rw [hn0]; exact Nat.min_eq_left (Nat.zero_le _)
                    rw [hz, Nat.zero_mul] at k1
                    have := (List.getElem?_eq_some_iff.1 hj).1
                    omega
                  · exact h
                rw [(ha hgen).1 hc, Addr.add_lit]
                exact k2 j u hj
            | marker cs cs' k n' c e fr hk' hn hf hh hs hcc =>
              simp only [srcCells] at hsrc
              split at hsrc
              · rename_i hsz'
                simp only [Option.some.injEq, Prod.mk.injEq] at hsrc
                obtain ⟨rfl, rfl⟩ := hsrc
                have hl : LRel H.length ρ w.heap cs.toList cs'.toList := ⟨by simpa using hs, fun i v v' h1 h2 => hcc i v v' (by simpa using h1) (by simpa using h2)⟩
                refine ⟨some ⟨k, 0, none⟩, c, cs'.toList.take (Nat.min n' n * i.size), rfl, hl.take _, ?_⟩
                refine run_firstCells_some w i.size _ _ n' c _ (by simp; omega) fun j u hj => ?_
                rw [Addr.add_lit]
                simp only [World.cell?, hh]
                rw [List.getElem?_take] at hj
                split at hj
                · simpa using hj
                · simp at hj
              · simp at hsrc
            | _ => simp [srcCells] at hsrc
          obtain ⟨A, c', news, rfl, hln, hfc⟩ := hS
          cases hv with
          | slice id off g _ _ c2 ra hid hg hn ha =>
            obtain ⟨b, hb, hsp, hro, hfl, hle, _, _⟩ := wrN_some hK
            simp only at hb hle hfl
            simp only [Option.some.injEq] at hsp
            have hgen : g = (ρ id).gen := by rw [(R.box id b hb).gen]; exact hsp
            obtain ⟨w', ρ', q1, q2, q3, q4⟩ := R.wrN (P := P) hK (.ptr id off g ⟨(ρ id).blk, (ρ id).base + off, none⟩ hid hg fun _ => rfl) hln
            simp only at q2
            have hadd : 0 < c2 → ra = ⟨(ρ id).blk, (ρ id).base + off, none⟩ := fun h => (ha hgen).1 h
            refine ⟨.int .i64 (Nat.min m n : Nat), w', ρ', ?_, .int _ _, q3, q4⟩
            by_cases hc2 : 0 < c2
            · obtain rfl := hadd hc2
              simp only [Builtin.copy_, List.getElem?_toArray, List.getElem?_cons_zero, List.getElem?_cons_succ, Sem.run_bind, run_underlying hu, Result.andThen_ok, lenOf_slice, run_sizeOf hsz, hfc, Sem.run_pure, goInt]
              simp only [List.toList_toArray, q2, Result.andThen_ok]
            · have hn0 : n = 0 := by omega
              have hz : Nat.min m n = 0 := by rw [hn0]; exact Nat.min_eq_right (Nat.zero_le _)
              have hnil : news = [] := by
                apply List.eq_nil_of_length_eq_zero
                have := hln.1
                rw [hz] at this
                simp at this
                exact this.symm
              subst hnil
              simp only [storeCells, Sem.run_pure, Result.ok.injEq, true_and] at q2
              subst q2
              simp only [Builtin.copy_, List.getElem?_toArray, List.getElem?_cons_zero, List.getElem?_cons_succ, Sem.run_bind, run_underlying hu, Result.andThen_ok, lenOf_slice, run_sizeOf hsz, hfc, Sem.run_pure, goInt]
              simp [storeCells]
        · simp at hs
      · simp at hc
    · simp at hc
  · simp at hc

theorem mn_res (R : Rel w0 ρ H w) (E : ERel H.length ρ w.heap env a) {ts : Array TypeId} {ty : TypeId} {x y : Operand} (hx : okX x = true) (hy : okX y = true) (hs : (LO.mn x y).step P T fl env H = some (v, H')) :
    Res w0 ρ H w v H' ((Builtin.min_ ts ty #[a.eval x, a.eval y]).run P w) := by
  have hv := E.ev hx
  have hv2 := E.ev hy
  simp only [LO.step] at hs
  split at hs
  · rename_i k n k' n' h1 h2
    simp only [Option.some.injEq, Prod.mk.injEq] at hs
    obtain ⟨rfl, rfl⟩ := hs
    rw [h1] at hv
    rw [h2] at hv2
    rw [int_of hv, int_of hv2]
    exact Res.same R (by simp [Builtin.min_, Builtin.min2]) (.int _ _)
  · simp at hs
theorem mx_res (R : Rel w0 ρ H w) (E : ERel H.length ρ w.heap env a) {ts : Array TypeId} {ty : TypeId} {x y : Operand} (hx : okX x = true) (hy : okX y = true) (hs : (LO.mx x y).step P T fl env H = some (v, H')) :
    Res w0 ρ H w v H' ((Builtin.max_ ts ty #[a.eval x, a.eval y]).run P w) := by
  have hv := E.ev hx
  have hv2 := E.ev hy
  simp only [LO.step] at hs
  split at hs
  · rename_i k n k' n' h1 h2
    simp only [Option.some.injEq, Prod.mk.injEq] at hs
    obtain ⟨rfl, rfl⟩ := hs
    rw [h1] at hv
    rw [h2] at hv2
    rw [int_of hv, int_of hv2]
    exact Res.same R (by simp [Builtin.max_, Builtin.max2]) (.int _ _)
  · simp at hs

theorem pr_res (R : Rel w0 ρ H w) (E : ERel H.length ρ w.heap env a) {o : Oper} (hx : o.op.operands.all okX = true) (hsel : ∀ cs b, o.op ≠ .select cs b) (hs : (LO.pr o).step P T fl env H = some (v, H')) :
    NRes w0 ρ H w v H' ((execOp a.eval o).run P w) := by
  simp only [LO.step] at hs
  split at hs
  · rename_i hall
    split at hs
    · rename_i u hu
      split at hs
      · rename_i hsc
        simp only [Option.some.injEq, Prod.mk.injEq] at hs
        obtain ⟨rfl, rfl⟩ := hs
        have he : execOp a.eval o = execOp (evO env) o := execOp_congr o hsel fun x hxm => by
          rw [Array.all_eq_true_iff_forall_mem] at hall hx
          exact (E.ev (hx x hxm)).sc (hall x hxm)
        refine ⟨.value u, u, w, ρ, ?_, .inl rfl, .ofSc hsc, R, .refl _ _ _⟩
        rw [he]
        exact pureRun_run _ _ hu w
      · simp at hs
    · simp at hs
  · simp at hs

end
end Go.Lev

/- Slices, builtins; all operations that are no calls. -/
import Derived.Test.YtffclchaoifleaaGreatDoorLvA
import Derived.Scope
import Derived.CallsIn
import Derived.OrdersIn
import Derived.LoopNIn
import Derived.RangeFuncLeaves
import Derived.TacticsIn
import Derived.RangeFuncRecord
import Derived.RangeFuncOwn
set_option linter.unusedVariables false
set_option linter.unusedSimpArgs false
set_option linter.constructorNameAsVariable false

set_option linter.unusedVariables false
set_option linter.unusedSimpArgs false
namespace Go.Lev
open Go Go.RowKit

section
variable {P : Program} {T : Tab} {fl : Nat} {env : Nat → Value} {H H' : Heap} {w0 w : World} {ρ : Nat → RB} {a : Act} {v : Value}

def okOX : Option Operand → Bool
  | none => true
  | some x => okX x

theorem bnd_some (E : ERel H.length ρ w.heap env a) {d : Nat} {x : Operand} {n : Nat} (hx : okX x = true) (h : bnd env d (some x) = some n) : ∃ k, a.eval x = .int k (n : Int) := by
  have hv := E.ev hx
  simp only [bnd] at h
  split at h
  · rename_i k m hev
    split at h
    · obtain rfl := Option.some.inj h
      rw [hev] at hv
      refine ⟨k, ?_⟩
      rw [int_of hv]
      congr 1
      omega
    · simp at h
  · simp at h

theorem run_sliceBound (k : IntKind) (n y : Nat) (c : BoundsCode) (h : n ≤ y) (w : World) : (Instr.sliceBound (.int k (n : Int)) y c).run P w = .ok n w := by
  have h' : (0 : Int) ≤ n ∧ (n : Int) ≤ y := ⟨by omega, by omega⟩
  simp [Instr.sliceBound, asIntOf, h'.2]

theorem bounds_run (E : ERel H.length ρ w.heap env a) (isS : Bool) {len cap dm l h m : Nat} {lo hi mx : Option Operand} (h1 : okOX lo = true) (h2 : okOX hi = true) (h3 : okOX mx = true) (hl : bnd env 0 lo = some l) (hh : bnd env len hi = some h)
    (hm : bnd env dm mx = some m) (hmx : mx = none → m = dm) (hlh : l ≤ h) (hhm : h ≤ m) (hhc : h ≤ cap) (hmc : mx ≠ none → m ≤ cap) (hmxhi : mx ≠ none → hi ≠ none) :
    (Instr.sliceBounds isS len cap (lo.map a.eval) (hi.map a.eval) (mx.map a.eval)).run P w = .ok (l, h, if mx = none then cap else m) w := by
  cases mx with
  | none =>
    cases hi with
    | none =>
      simp only [bnd, Option.some.injEq] at hh
      subst hh
      cases lo with
      | none =>
        simp only [bnd, Option.some.injEq] at hl
        subst hl
        simp [Instr.sliceBounds]
      | some x =>
        obtain ⟨k, e⟩ := bnd_some E h1 hl
        simp [Instr.sliceBounds, e, run_sliceBound k l _ _ hlh]
    | some y =>
      obtain ⟨k2, e2⟩ := bnd_some E h2 hh
      cases lo with
      | none =>
        simp only [bnd, Option.some.injEq] at hl
        subst hl
        simp [Instr.sliceBounds, e2, run_sliceBound k2 h _ _ hhc]
      | some x =>
        obtain ⟨k, e⟩ := bnd_some E h1 hl
        simp [Instr.sliceBounds, e, e2, run_sliceBound k2 h _ _ hhc, run_sliceBound k l _ _ hlh]
  | some z =>
    obtain ⟨k3, e3⟩ := bnd_some E h3 hm
    cases hi with
    | none => exact absurd rfl (hmxhi (by simp))
    | some y =>
      obtain ⟨k2, e2⟩ := bnd_some E h2 hh
      cases lo with
      | none =>
        simp only [bnd, Option.some.injEq] at hl
        subst hl
        simp [Instr.sliceBounds, e2, e3, run_sliceBound k3 m _ _ (hmc (by simp)), run_sliceBound k2 h _ _ hhm]
      | some x =>
        obtain ⟨k, e⟩ := bnd_some E h1 hl
        simp [Instr.sliceBounds, e, e2, e3, run_sliceBound k3 m _ _ (hmc (by simp)), run_sliceBound k2 h _ _ hhm, run_sliceBound k l _ _ hlh]

theorem slice_res (R : Rel w0 ρ H w) (E : ERel H.length ρ w.heap env a) {t : TypeId} {x : Operand} {lo hi mx : Option Operand} {q : LO} (hx : okX x = true) (h1 : okOX lo = true) (h2 : okOX hi = true) (h3 : okOX mx = true) (hc : cSlice P t x lo hi mx = some q)
    (hmxhi : mx ≠ none → hi ≠ none) (hs : q.step P T fl env H = some (v, H')) :
    Res w0 ρ H w v H' ((Instr.sliceAt t (a.eval x) (lo.map a.eval) (hi.map a.eval) (mx.map a.eval)).run P w) := by
  have hv := E.ev hx
  unfold cSlice at hc
  split at hc
  · rename_i hu
    split at hc
    · rename_i hmn
      obtain rfl := Option.some.inj hc
      have hmn' : mx = none := by simpa using hmn
      subst hmn'
      simp only [LO.step] at hs
      split at hs
      · rename_i s hev
        split at hs
        · rename_i l h hl hh
          split at hs
          · rename_i hb
            simp only [Option.some.injEq, Prod.mk.injEq] at hs
            obtain ⟨rfl, rfl⟩ := hs
            rw [hev] at hv
            have hr := bounds_run (P := P) (dm := h) (cap := s.size) (mx := none) E false h1 h2 rfl hl hh (by rfl) (fun _ => rfl) hb.1 (Nat.le_refl _) hb.2 (fun h => absurd rfl h) (fun h => absurd rfl h)
            simp only [Option.map_none, if_true] at hr
            generalize a.eval x = X at hv ⊢
            cases hv
            refine Res.same R ?_ (.string _)
            simp [Instr.sliceAt, Instr.slice, run_underlying hu, hr]
          · simp at hs
        · simp at hs
      · simp at hs
    · simp at hc
  · rename_i e hu
    simp only [Option.map_eq_some_iff] at hc
    obtain ⟨n, hn, rfl⟩ := hc
    simp only [LO.step] at hs
    split at hs
    · rename_i sa len c0 hev
      split at hs
      · rename_i l h m hl hh hm
        split at hs
        · rename_i hb
          obtain ⟨hb1, hb2, hb3, hb4, hb5⟩ := hb
          simp only [Option.some.injEq, Prod.mk.injEq] at hs
          obtain ⟨rfl, rfl⟩ := hs
          rw [hev] at hv
          have key : ∀ cap, len ≤ cap → (Instr.sliceBounds true len cap (lo.map a.eval) (hi.map a.eval) (mx.map a.eval)).run P w = .ok (l, h, if mx = none then cap else m) w := fun cap hcap =>
            bounds_run (P := P) (dm := len) E true h1 h2 h3 hl hh hm (fun e => by subst e; simp [bnd] at hm; exact hm.symm) hb1 hb3 (by omega) (fun _ => by omega) hmxhi
          generalize a.eval x = X at hv ⊢
          cases hv with
          | sliceNil =>
            have hk := key 0 (Nat.le_refl _)
            have hl0 : l = 0 := by omega
            have hh0 : h = 0 := by omega
            have hm0 : m = 0 := by omega
            subst hl0 hh0 hm0
            refine Res.same R (v' := .slice none 0 0) ?_ .sliceNil
            cases mx <;> simp_all [Instr.sliceAt, Instr.slice, run_underlying hu, run_sizeOf hn]
          | slice id off g _ _ c' ra hid hg hnc ha =>
            have hk := key c' hnc
            refine Res.same R (v' := .slice (if (if mx = none then c' else m) = l then some ra else some (ra.add (l * n))) (h - l) ((if mx = none then c' else m) - l)) ?_ ?_
            · simp only [Instr.sliceAt, Instr.slice, Sem.run_bind, run_underlying hu, Result.andThen_ok, hk, run_sizeOf hn, Sem.run_pure, Option.map_some]
            · simp only [Option.map_some]
              have hcn : c0 = n := by simpa using hb5
              have hcap : h ≤ (if mx = none then c' else m) := by split <;> omega
              have hcap2 : (if mx = none then c' else m) ≤ c' := by split <;> omega
              generalize (if mx = none then c' else m) = M at hcap hcap2 ⊢
              have hite : (if M = l then some ra else some (ra.add (l * n))) = some (if M = l then ra else ra.add (l * n)) := by split <;> rfl
              rw [hite]
              refine .slice _ _ _ _ _ _ _ hid hg (by omega) fun e => ⟨fun hp => ?_, fun hr hr0 hp => ?_⟩
              · rw [if_neg (by omega), (ha e).1 (by omega), Addr.add_lit, Nat.add_assoc]
              · have := (ha e).2 hr hr0 (by omega)
                rw [hcn] at this ⊢
                have e1 : (M - l) * n + l * n = M * n := by rw [← Nat.add_mul]; congr 1; omega
                have e2 : M * n ≤ c' * n := Nat.mul_le_mul_right _ hcap2
                omega
        · simp at hs
      · simp at hs
    · simp at hs
  · rename_i len e hu
    split at hc
    · rename_i hmn
      simp only [Option.map_eq_some_iff] at hc
      obtain ⟨n, hn, rfl⟩ := hc
      have hmn' : mx = none := by simpa using hmn
      subst hmn'
      simp only [LO.step] at hs
      split at hs
      · rename_i sa hev
        split at hs
        · rename_i l h hl hh
          split at hs
          · rename_i hb
            simp only [Option.some.injEq, Prod.mk.injEq] at hs
            obtain ⟨rfl, rfl⟩ := hs
            rw [hev] at hv
            have hr := bounds_run (P := P) (dm := h) (cap := len) (mx := none) E false h1 h2 rfl hl hh (by rfl) (fun _ => rfl) hb.1 (Nat.le_refl _) hb.2 (fun h => absurd rfl h) (fun h => absurd rfl h)
            simp only [Option.map_none, if_true] at hr
            generalize a.eval x = X at hv ⊢
            cases hv with
            | ptr id off g ra hid hg ha =>
              refine Res.same R (v' := .slice (some (if len = l then ra else ra.add (l * n))) (h - l) (len - l)) ?_ ?_
              · simp only [Instr.sliceAt, Sem.run_bind, run_underlying hu, Result.andThen_ok, Instr.sureAddr, Sem.run_pure, Option.map_none, hr, run_sizeOf hn]
              · refine .slice _ _ _ _ _ _ _ hid hg (by omega) fun e => ⟨fun hp => ?_, fun _ h0 _ => absurd rfl h0⟩
                rw [if_neg (by omega), ha e, Addr.add_lit, Nat.add_assoc]
          · simp at hs
        · simp at hs
      · simp at hs
    · simp at hc
  · simp at hc

end
end Go.Lev


set_option linter.unusedVariables false
set_option linter.unusedSimpArgs false
namespace Go.Lev
open Go Go.RowKit

section
variable {P : Program} {T : Tab} {fl : Nat} {env : Nat → Value} {H H' : Heap} {w0 w : World} {ρ : Nat → RB} {a : Act} {v : Value}

theorem len_res (R : Rel w0 ρ H w) (E : ERel H.length ρ w.heap env a) {ts : Array TypeId} {ty : TypeId} {xs : Array Operand} {lo : LO} (hx : ∀ x ∈ xs, okX x = true) (hc : cLen P ts.toList xs.toList = some lo) (hs : lo.step P T fl env H = some (v, H')) :
    Res w0 ρ H w v H' ((Builtin.len_ ts ty (xs.map a.eval)).run P w) := by
  unfold cLen at hc
  split at hc
  · rename_i t x ht hxs
    have ht' : ts = #[t] := by apply Array.ext'; simpa using ht
    have hx' : xs = #[x] := by apply Array.ext'; simpa using hxs
    subst ht' hx'
    have hv := E.ev (hx x (by simp))
    split at hc
    · rename_i hu
      obtain rfl := Option.some.inj hc
      simp only [LO.step] at hs
      split at hs
      · rename_i s hev
        simp only [Option.some.injEq, Prod.mk.injEq] at hs
        obtain ⟨rfl, rfl⟩ := hs
        rw [hev] at hv
        simp only [List.map_toArray, List.map_cons, List.map_nil]
        generalize a.eval x = X at hv ⊢
        cases hv
        exact Res.same R (by simp [Builtin.len_, run_underlying hu, goInt]) (.int _ _)
      · simp at hs
    · rename_i e hu
      obtain rfl := Option.some.inj hc
      simp only [LO.step] at hs
      split at hs
      · rename_i a0 n c hev
        simp only [Option.some.injEq, Prod.mk.injEq] at hs
        obtain ⟨rfl, rfl⟩ := hs
        rw [hev] at hv
        simp only [List.map_toArray, List.map_cons, List.map_nil]
        generalize a.eval x = X at hv ⊢
        cases hv <;> exact Res.same R (by simp [Builtin.len_, run_underlying hu, goInt]) (.int _ _)
      · simp at hs
    · rename_i n e hu
      obtain rfl := Option.some.inj hc
      simp only [LO.step, Option.some.injEq, Prod.mk.injEq] at hs
      obtain ⟨rfl, rfl⟩ := hs
      simp only [List.map_toArray, List.map_cons, List.map_nil]
      exact Res.same R (by simp [Builtin.len_, run_underlying hu, goInt]) (.int _ _)
    · simp at hc
  · simp at hc

theorem appb_res (R : Rel w0 ρ H w) (E : ERel H.length ρ w.heap env a) {ts : Array TypeId} {ty : TypeId} {xs : Array Operand} {lo : LO} (hx : ∀ x ∈ xs, okX x = true) (hc : cApp P ts.toList xs.toList = some lo) (hs : lo.step P T fl env H = some (v, H')) :
    Res w0 ρ H w v H' ((Builtin.append_ ts ty (xs.map a.eval)).run P w) := by
  unfold cApp at hc
  split at hc
  · rename_i t tx s x ht hxs
    have ht' : ts = #[t, tx] := by apply Array.ext'; simpa using ht
    have hx' : xs = #[s, x] := by apply Array.ext'; simpa using hxs
    subst ht' hx'
    have hv := E.ev (hx s (by simp))
    have hv2 := E.ev (hx x (by simp))
    split at hc
    · rename_i e e' hu hu2
      split at hc
      · rename_i i hi
        split at hc
        · rename_i z hz
          split at hc
          · rename_i hzs
            obtain rfl := Option.some.inj hc
            simp only [LO.step] at hs
            simp only [List.map_toArray, List.map_cons, List.map_nil]
            exact app_res R hs hv hv2 hu hu2 hi hz rfl hzs rfl
          · simp at hc
        · simp at hc
      · simp at hc
    · simp at hc
  · simp at hc

theorem lenOf_slice (x : Option Addr) (n c : Nat) (w : World) : (Builtin.lenOf (.slice x n c)).run P w = .ok n w := rfl

theorem cpy_res (R : Rel w0 ρ H w) (E : ERel H.length ρ w.heap env a) {ts : Array TypeId} {ty : TypeId} {xs : Array Operand} {lo : LO} (hx : ∀ x ∈ xs, okX x = true) (hc : cCpy P ts.toList xs.toList = some lo) (hs : lo.step P T fl env H = some (v, H')) :
    Res w0 ρ H w v H' ((Builtin.copy_ ts ty (xs.map a.eval)).run P w) := by
  unfold cCpy at hc
  split at hc
  · rename_i t tx d s ht hxs
    have ht' : ts = #[t, tx] := by apply Array.ext'; simpa using ht
    have hx' : xs = #[d, s] := by apply Array.ext'; simpa using hxs
    subst ht' hx'
    have hv := E.ev (hx d (by simp))
    have hv2 := E.ev (hx s (by simp))
    split at hc
    · rename_i e e' hu hu2
      split at hc
      · rename_i i hi
        obtain rfl := Option.some.inj hc
        have hsz : tySize P e = some i.size := by simp [tySize, hi]
        simp only [LO.step] at hs
        simp only [List.map_toArray, List.map_cons, List.map_nil]
        generalize a.eval d = D at hv ⊢
        generalize a.eval s = S at hv2 ⊢
        split at hs
        · rename_i p hsrc hevd
          obtain ⟨ys, m⟩ := p
          simp only [Option.some.injEq, Prod.mk.injEq] at hs
          obtain ⟨rfl, rfl⟩ := hs
          rw [hevd] at hv
          cases hv
          have hn : ∃ (A : Option Addr) (n c : Nat), S = .slice A n c := by
            generalize evO env s = S0 at hv2 hsrc
            cases hv2 <;> first | exact ⟨_, _, _, rfl⟩ | simp [srcCells] at hsrc
          obtain ⟨A, n, c, rfl⟩ := hn
          refine Res.same R (v' := .int .i64 0) ?_ (.int _ _)
          have hfc : ∀ w' : World, (Builtin.firstCells i.size 0 (.slice A n c)).run P w' = .ok #[] w' := fun w' => by
            cases A with
            | none => simp [Builtin.firstCells]
            | some x => simp [Builtin.firstCells, loadCells, loadCellsFrom]
          simp [Builtin.copy_, run_underlying hu, lenOf_slice, run_sizeOf hsz, hfc, goInt]
        · rename_i ys m ad n c hsrc hevd
          rw [hevd] at hv
          simp only [Option.map_eq_some_iff, Prod.mk.injEq] at hs
          obtain ⟨K, hK, rfl, rfl⟩ := hs
          have hone : (ys.take (Nat.min m n * i.size)).all Value.oneCell' = true := (wrN_some hK).choose_spec.2.2.2.2.2.1
          -- the source's cells, in the world
          have hS : ∃ (A : Option Addr) (c' : Nat) (news : List Value), S = .slice A m c' ∧ LRel H.length ρ w.heap (ys.take (Nat.min m n * i.size)) news ∧ (Builtin.firstCells i.size (Nat.min m n) (.slice A m c')).run P w = .ok news.toArray w := by
            generalize evO env s = S0 at hv2 hsrc
            have hmul : Nat.min m n * i.size ≤ m * i.size := Nat.mul_le_mul_right _ (Nat.min_le_left _ _)
            cases hv2 with
            | sliceNil =>
              simp [srcCells] at hsrc
              obtain ⟨rfl, rfl⟩ := hsrc
              exact ⟨none, 0, [], rfl, by simpa using LRel.nil _ _ _, by simp [Builtin.firstCells]⟩
            | slice id off g n' c c' a hid hg hn ha =>
              simp only [srcCells, Option.map_eq_some_iff, Prod.mk.injEq] at hsrc
              obtain ⟨l, hl, rfl, rfl⟩ := hsrc
              obtain ⟨b, hb, hs, hle, rfl⟩ := rdN_some hl
              simp only [Option.some.injEq] at hs
              simp only at hb hle
              have hgen : g = (ρ id).gen := by rw [(R.box id b hb).gen]; exact hs
              obtain ⟨l', k1, k2, k3⟩ := R.cellsAt hb off (Nat.min n' n * i.size) (by omega)
              refine ⟨some a, c', l', rfl, ?_, ?_⟩
              · rw [List.take_take, Nat.min_eq_left hmul]
                exact k3
              · refine run_firstCells_some w i.size _ a n' c' l' k1 fun j u hj => ?_
                have hc : 0 < c' := by
                  rcases Nat.eq_zero_or_pos c' with h | h
                  · exfalso
                    have hn0 : n' = 0 := by omega
                    have hz : Nat.min n' n = 0 := by rw [hn0]; exact Nat.min_eq_left (Nat.zero_le _)
                    rw [hz, Nat.zero_mul] at k1
                    have := (List.getElem?_eq_some_iff.1 hj).1
                    omega
                  · exact h
                rw [(ha hgen).1 hc, Addr.add_lit]
                exact k2 j u hj
            | marker cs cs' k n' c e fr hk' hn hf hh hs hcc =>
              simp only [srcCells] at hsrc
              split at hsrc
              · rename_i hsz'
                simp only [Option.some.injEq, Prod.mk.injEq] at hsrc
                obtain ⟨rfl, rfl⟩ := hsrc
                have hl : LRel H.length ρ w.heap cs.toList cs'.toList := ⟨by simpa using hs, fun i v v' h1 h2 => hcc i v v' (by simpa using h1) (by simpa using h2)⟩
                refine ⟨some ⟨k, 0, none⟩, c, cs'.toList.take (Nat.min n' n * i.size), rfl, hl.take _, ?_⟩
                refine run_firstCells_some w i.size _ _ n' c _ (by simp; omega) fun j u hj => ?_
                rw [Addr.add_lit]
                simp only [World.cell?, hh]
                rw [List.getElem?_take] at hj
                split at hj
                · simpa using hj
                · simp at hj
              · simp at hsrc
            | _ => simp [srcCells] at hsrc
          obtain ⟨A, c', news, rfl, hln, hfc⟩ := hS
          cases hv with
          | slice id off g _ _ c2 ra hid hg hn ha =>
            obtain ⟨b, hb, hsp, hro, hfl, hle, _, _⟩ := wrN_some hK
            simp only at hb hle hfl
            simp only [Option.some.injEq] at hsp
            have hgen : g = (ρ id).gen := by rw [(R.box id b hb).gen]; exact hsp
            obtain ⟨w', ρ', q1, q2, q3, q4⟩ := R.wrN (P := P) hK (.ptr id off g ⟨(ρ id).blk, (ρ id).base + off, none⟩ hid hg fun _ => rfl) hln
            simp only at q2
            have hadd : 0 < c2 → ra = ⟨(ρ id).blk, (ρ id).base + off, none⟩ := fun h => (ha hgen).1 h
            refine ⟨.int .i64 (Nat.min m n : Nat), w', ρ', ?_, .int _ _, q3, q4⟩
            by_cases hc2 : 0 < c2
            · obtain rfl := hadd hc2
              simp only [Builtin.copy_, List.getElem?_toArray, List.getElem?_cons_zero, List.getElem?_cons_succ, Sem.run_bind, run_underlying hu, Result.andThen_ok, lenOf_slice, run_sizeOf hsz, hfc, Sem.run_pure, goInt]
              simp only [List.toList_toArray, q2, Result.andThen_ok]
            · have hn0 : n = 0 := by omega
              have hz : Nat.min m n = 0 := by rw [hn0]; exact Nat.min_eq_right (Nat.zero_le _)
              have hnil : news = [] := by
                apply List.eq_nil_of_length_eq_zero
                have := hln.1
                rw [hz] at this
                simp at this
                exact this.symm
              subst hnil
              simp only [storeCells, Sem.run_pure, Result.ok.injEq, true_and] at q2
              subst q2
              simp only [Builtin.copy_, List.getElem?_toArray, List.getElem?_cons_zero, List.getElem?_cons_succ, Sem.run_bind, run_underlying hu, Result.andThen_ok, lenOf_slice, run_sizeOf hsz, hfc, Sem.run_pure, goInt]
              simp [storeCells]
        · simp at hs
      · simp at hc
    · simp at hc
  · simp at hc

theorem mn_res (R : Rel w0 ρ H w) (E : ERel H.length ρ w.heap env a) {ts : Array TypeId} {ty : TypeId} {x y : Operand} (hx : okX x = true) (hy : okX y = true) (hs : (LO.mn x y).step P T fl env H = some (v, H')) :
    Res w0 ρ H w v H' ((Builtin.min_ ts ty #[a.eval x, a.eval y]).run P w) := by
  have hv := E.ev hx
  have hv2 := E.ev hy
  simp only [LO.step] at hs
  split at hs
  · rename_i k n k' n' h1 h2
    simp only [Option.some.injEq, Prod.mk.injEq] at hs
    obtain ⟨rfl, rfl⟩ := hs
    rw [h1] at hv
    rw [h2] at hv2
    rw [int_of hv, int_of hv2]
    exact Res.same R (by simp [Builtin.min_, Builtin.min2]) (.int _ _)
  · simp at hs
theorem mx_res (R : Rel w0 ρ H w) (E : ERel H.length ρ w.heap env a) {ts : Array TypeId} {ty : TypeId} {x y : Operand} (hx : okX x = true) (hy : okX y = true) (hs : (LO.mx x y).step P T fl env H = some (v, H')) :
    Res w0 ρ H w v H' ((Builtin.max_ ts ty #[a.eval x, a.eval y]).run P w) := by
  have hv := E.ev hx
  have hv2 := E.ev hy
  simp only [LO.step] at hs
  split at hs
  · rename_i k n k' n' h1 h2
    simp only [Option.some.injEq, Prod.mk.injEq] at hs
    obtain ⟨rfl, rfl⟩ := hs
    rw [h1] at hv
    rw [h2] at hv2
    rw [int_of hv, int_of hv2]
    exact Res.same R (by simp [Builtin.max_, Builtin.max2]) (.int _ _)
  · simp at hs

theorem pr_res (R : Rel w0 ρ H w) (E : ERel H.length ρ w.heap env a) {o : Oper} (hx : o.op.operands.all okX = true) (hsel : ∀ cs b, o.op ≠ .select cs b) (hs : (LO.pr o).step P T fl env H = some (v, H')) :
    NRes w0 ρ H w v H' ((execOp a.eval o).run P w) := by
  simp only [LO.step] at hs
  split at hs
  · rename_i hall
    split at hs
    · rename_i u hu
      split at hs
      · rename_i hsc
        simp only [Option.some.injEq, Prod.mk.injEq] at hs
        obtain ⟨rfl, rfl⟩ := hs
        have he : execOp a.eval o = execOp (evO env) o := execOp_congr o hsel fun x hxm => by
          rw [Array.all_eq_true_iff_forall_mem] at hall hx
          exact (E.ev (hx x hxm)).sc (hall x hxm)
        refine ⟨.value u, u, w, ρ, ?_, .inl rfl, .ofSc hsc, R, .refl _ _ _⟩
        rw [he]
        exact pureRun_run _ _ hu w
      · simp at hs
    · simp at hs
  · simp at hs

end
end Go.Lev


set_option linter.unusedVariables false
set_option linter.unusedSimpArgs false
namespace Go.Lev
open Go Go.RowKit

def FloorOK (fl : Nat) (H H' : Heap) : Prop := ∀ (id : Nat) (b : Box), id < fl → H[id]? = some b → H'[id]? = some b
theorem FloorOK.refl (fl : Nat) (H : Heap) : FloorOK fl H H := fun _ _ _ h => h
theorem FloorOK.trans {fl : Nat} {H H' H'' : Heap} (a : FloorOK fl H H') (b : FloorOK fl H' H'') : FloorOK fl H H'' := fun id x h k => b id x h (a id x h k)
theorem FloorOK.push (fl : Nat) (H : Heap) (b : Box) : FloorOK fl H (H ++ [b]) := fun id x _ h => by
  rw [List.getElem?_append_left (List.getElem?_eq_some_iff.1 h).1]; exact h
theorem FloorOK.set {fl : Nat} (H : Heap) {j : Nat} (hj : fl ≤ j) (b : Box) : FloorOK fl H (H.set j b) := fun id x hi h => by
  rw [List.getElem?_set_ne (by omega)]; exact h

def callOK (P : Program) (f : FuncId) : Prop := ∃ fn, P.funcs[f]? = some fn ∧ (fn.name == "runtime.NumGoroutine") = false ∧ fn.body.isNone = false

/-- What a table's row says is what the call does. -/
def ValidAt (P : Program) (w0 : World) (F : Nat → List Value → Heap → Option (Value × Heap)) (f : FuncId) : Prop :=
  ∀ fl args H v H', F fl args H = some (v, H') → callOK P f ∧ FloorOK fl H H' ∧ ∀ ρ w (args' : Array Value), Rel w0 ρ H w → LRel H.length ρ w.heap args args'.toList →
    Calls P f args' w fun e w' => ∃ v' ρ', e = .returned v' ∧ VRel H'.length ρ' w'.heap v v' ∧ Rel w0 ρ' H' w' ∧ Ext H.length ρ w.heap H'.length ρ' w'.heap

def Valid (P : Program) (w0 : World) (T : Tab) : Prop := ∀ f, ValidAt P w0 (T f) f

theorem step_floor {P : Program} {T : Tab} (hT : ∀ f fl args H v H', T f fl args H = some (v, H') → FloorOK fl H H') {fl : Nat} {env : Nat → Value} {H H' : Heap} {v : Value} {lo : LO} (hs : lo.step P T fl env H = some (v, H')) : FloorOK fl H H' := by
  have wr : ∀ {a vs K}, wrN fl H a vs = some K → FloorOK fl H K := fun h => by
    obtain ⟨b, hb, _, _, hfl, _, _, rfl⟩ := wrN_some h
    exact .set H hfl _
  cases lo with
  | app esz bytes s x =>
    simp only [LO.step] at hs
    unfold appV at hs
    split at hs
    · simp at hs
    · split at hs
      · simp at hs
      · split at hs
        · split at hs
          · simp only [Option.some.injEq, Prod.mk.injEq] at hs; obtain ⟨_, rfl⟩ := hs; exact .refl _ _
          · split at hs
            · simp only [Option.some.injEq, Prod.mk.injEq] at hs; obtain ⟨_, rfl⟩ := hs; exact .push _ _ _
            · simp at hs
        · split at hs
          · simp at hs
          · split at hs
            · rename_i hc
              split at hs
              · simp only [Option.some.injEq, Prod.mk.injEq] at hs; obtain ⟨_, rfl⟩ := hs; exact .refl _ _
              · simp only [Option.some.injEq, Prod.mk.injEq] at hs; obtain ⟨_, rfl⟩ := hs; exact .set H hc.2.2.2.2.1 _
            · simp at hs
        · simp at hs
  | call f args =>
    simp only [LO.step] at hs
    split at hs
    · exact hT _ _ _ _ _ _ hs
    · simp at hs
  | callP l f args =>
    simp only [LO.step] at hs
    split at hs
    · split at hs
      · exact hT _ _ _ _ _ _ hs
      · simp at hs
    · simp at hs
  | store n a x =>
    simp only [LO.step] at hs
    split at hs
    · split at hs
      · simp only [Option.map_eq_some_iff, Prod.mk.injEq] at hs; obtain ⟨K, hK, _, rfl⟩ := hs; exact wr hK
      · simp at hs
    · simp at hs
  | cpy esz d s =>
    simp only [LO.step] at hs
    split at hs
    · simp only [Option.some.injEq, Prod.mk.injEq] at hs; obtain ⟨_, rfl⟩ := hs; exact .refl _ _
    · simp only [Option.map_eq_some_iff, Prod.mk.injEq] at hs; obtain ⟨K, hK, _, rfl⟩ := hs; exact wr hK
    · simp at hs
  | alloc z => simp only [LO.step, Option.some.injEq, Prod.mk.injEq] at hs; obtain ⟨_, rfl⟩ := hs; exact .push _ _ _
  | box x => simp only [LO.step, Option.some.injEq, Prod.mk.injEq] at hs; obtain ⟨_, rfl⟩ := hs; exact .push _ _ _
  | row a b c d => simp only [LO.step, Option.map_eq_some_iff, Prod.mk.injEq] at hs; obtain ⟨_, _, _, rfl⟩ := hs; exact .push _ _ _
  | mk a b c d e =>
    simp only [LO.step] at hs
    split at hs
    · split at hs
      · simp only [Option.some.injEq, Prod.mk.injEq] at hs; obtain ⟨_, rfl⟩ := hs; exact .push _ _ _
      · simp at hs
    · simp at hs
  | _ =>
    have : H' = H := by
      simp only [LO.step] at hs
      first
        | (simp only [Option.some.injEq, Prod.mk.injEq] at hs; exact hs.2.symm)
        | (simp only [Option.map_eq_some_iff, Prod.mk.injEq] at hs; obtain ⟨_, _, _, h⟩ := hs; exact h.symm)
        | (repeat' (split at hs)
           all_goals first
             | (simp at hs; done)
             | (simp only [Option.some.injEq, Prod.mk.injEq] at hs; exact hs.2.symm)
             | (simp only [Option.map_eq_some_iff, Prod.mk.injEq] at hs; obtain ⟨_, _, _, h⟩ := hs; exact h.symm))
    rw [this]
    exact .refl _ _

section
variable {P : Program} {T : Tab} {fl : Nat} {env : Nat → Value} {H H' : Heap} {w0 w : World} {ρ : Nat → RB} {a : Act} {v : Value}

theorem operands_ok {o : Oper} (h : o.op.operands.all okX = true) : ∀ x ∈ o.op.operands, okX x = true := by
  rw [Array.all_eq_true_iff_forall_mem] at h
  exact h

/-- An operation that is no call of a function. -/
theorem comp_res (R : Rel w0 ρ H w) (E : ERel H.length ρ w.heap env a) {m : Bool} {o : Oper} {lo : LO} (hc : comp P m o = some lo) (hcall : ∀ f xs, lo ≠ .call f xs) (hs : lo.step P T fl env H = some (v, H')) :
    NRes w0 ρ H w v H' ((execOp a.eval o).run P w) := by
  unfold comp at hc
  split at hc
  case isFalse => simp at hc
  rename_i hall
  have hok := operands_ok hall
  by_cases hpr : lo = .pr o
  · subst hpr
    refine pr_res R E hall (fun cs b h => ?_) hs
    rw [h] at hc
    simp [compIn] at hc
  obtain ⟨dst, op, type, pos, after, guard⟩ := o
  cases op <;> simp only [compIn] at hc <;> simp only [Op.operands] at hok <;> try (simp at hc; done)
  case move x =>
    obtain rfl := Option.some.inj hc
    simp only [LO.step, Option.some.injEq, Prod.mk.injEq] at hs
    obtain ⟨rfl, rfl⟩ := hs
    exact ⟨_, _, w, ρ, rfl, .inl rfl, E.ev (hok x (by simp)), R, .refl _ _ _⟩
  case assign x =>
    obtain rfl := Option.some.inj hc
    simp only [LO.step, Option.some.injEq, Prod.mk.injEq] at hs
    obtain ⟨rfl, rfl⟩ := hs
    exact ⟨_, _, w, ρ, rfl, .inl rfl, E.ev (hok x (by simp)), R, .refl _ _ _⟩
  case pick c x y =>
    obtain rfl := Option.some.inj hc
    simp only [LO.step] at hs
    split at hs
    · rename_i b hev
      simp only [Option.some.injEq, Prod.mk.injEq] at hs
      obtain ⟨rfl, rfl⟩ := hs
      have hv := E.ev (hok c (by simp))
      rw [hev] at hv
      have hv' : a.eval c = .bool b := by generalize a.eval c = X at hv; cases hv; rfl
      refine ⟨.value (if b then a.eval x else a.eval y), _, w, ρ, by simp [execOp, hv', asBool], .inl rfl, ?_, R, .refl _ _ _⟩
      cases b
      · exact E.ev (hok y (by simp))
      · exact E.ev (hok x (by simp))
    · simp at hs
  case alloc e => exact (alloc_res R hc hs).value
  case box e x =>
    obtain rfl := Option.some.inj hc
    exact (box_res R E (hok x (by simp)) hs).value
  case build t parts => exact (build_res R E (by rw [List.all_eq_true]; intro p hp; exact hok p.2 (by simp; exact ⟨p.1, by simpa using hp⟩)) hc hs).value
  case buildSlice t n parts => exact (row_res R E (by rw [List.all_eq_true]; intro p hp; exact hok p.2 (by simp; exact ⟨p.1, by simpa using hp⟩)) hc hs).value
  case load t x => exact (load_res R E (hok x (by simp)) hc hs).value
  case store t x y =>
    obtain ⟨w', ρ', rfl, h1, h2, h3⟩ := store_res R E (hok x (by simp)) (hok y (by simp)) hc hs
    exact ⟨.skip, undef, w', ρ', by simp [execOp, h1], .inr ⟨rfl, rfl⟩, .undef _ _ _, h2, h3⟩
  case nilCheck x =>
    obtain rfl := Option.some.inj hc
    simp only [LO.step] at hs
    split at hs
    · rename_i ad hev
      simp only [Option.some.injEq, Prod.mk.injEq] at hs
      obtain ⟨rfl, rfl⟩ := hs
      have hv := E.ev (hok x (by simp))
      rw [hev] at hv
      have hq : ∃ ra, a.eval x = .pointer (some ra) := by generalize a.eval x = X at hv; cases hv; exact ⟨_, rfl⟩
      obtain ⟨ra, hra⟩ := hq
      exact ⟨.value (.pointer (some ra)), _, w, ρ, by simp [execOp, hra], .inl rfl, by rw [hra] at hv; exact hv, R, .refl _ _ _⟩
    · simp at hs
  case binOp op t x y t' =>
    unfold cBin at hc
    split at hc
    · rename_i hcond
      simp only [Bool.and_eq_true, Bool.or_eq_true, beq_iff_eq] at hcond
      obtain rfl := Option.some.inj hc
      exact (isNil_res R E (hok x (by simp)) hcond.1.1 hcond.2 hs).value
    · split at hc
      · obtain rfl := Option.some.inj hc
        exact (bin_res R E (hok x (by simp)) (hok y (by simp)) hs).value
      · obtain rfl := Option.some.inj hc
        exact (bin_res R E (hok x (by simp)) (hok y (by simp)) hs).value
      · rename_i hu
        obtain rfl := Option.some.inj hc
        exact (binB_res R E (hok x (by simp)) (hok y (by simp)) hu hs).value
      · rename_i fs hu
        split at hc
        · rename_i l hl
          split at hc
          · rename_i hcond2
            obtain rfl := Option.some.inj hc
            have hop : op = .eql ∨ op = .neq := by have := hcond2.2; simpa using this
            exact (eqA_res R E (hok x (by simp)) (hok y (by simp)) hl (by simp [tyAgg, hu]) hcond2.1 hop hs).value
          · simp at hc
        · simp at hc
      · rename_i n e hu
        split at hc
        · rename_i l hl
          split at hc
          · rename_i hcond2
            obtain rfl := Option.some.inj hc
            have hop : op = .eql ∨ op = .neq := by have := hcond2.2; simpa using this
            exact (eqA_res R E (hok x (by simp)) (hok y (by simp)) hl (by simp [tyAgg, hu]) hcond2.1 hop hs).value
          · simp at hc
        · simp at hc
      · exact absurd (Option.some.inj hc).symm hpr
  case unOp op t x =>
    obtain rfl := Option.some.inj hc
    exact (un_res R E (hok x (by simp)) hs).value
  case convert s d x => exact (conv_res R E (hok x (by simp)) hc hpr hs).value
  case makeInterface t x => exact (mkI_res R E (hok x (by simp)) hc hs).value
  case makeFunc fn fs cs =>
    cases fn with
    | func f =>
      obtain rfl := Option.some.inj hc
      exact (mkf_res R E (fun x hx => hok x (by simp [hx])) (fun x hx => hok x (by simp [hx])) hs).value
    | _ => simp at hc
  case makeSlice t l c => exact (mk_res R E (hok l (by simp)) (hok c (by simp)) hc hs).value
  case slice t x lo hi mx =>
    have q : ∀ y : Option Operand, (∀ z ∈ y.toArray, okX z = true) → okOX y = true := fun y h => by cases y with
      | none => rfl
      | some z => exact h z (by simp)
    split at hc
    · simp at hc
    · rename_i hm
      have hm' : mx ≠ none → hi ≠ none := fun h1 h2 => hm (by simp [h2, Option.isSome_iff_ne_none.2 h1])
      exact (slice_res R E (hok x (by simp)) (q lo fun z hz => hok z (by simp at hz ⊢; exact .inr (.inl hz))) (q hi fun z hz => hok z (by simp at hz ⊢; exact .inr (.inr (.inl hz)))) (q mx fun z hz => hok z (by simp at hz ⊢; exact .inr (.inr (.inr hz)))) hc hm' hs).value
  case fieldAddr s x f => exact (fieldAddr_res R E (hok x (by simp)) hc hs).value
  case field s x f => exact (field_res R E (hok x (by simp)) hc hs).value
  case indexAddr t x y => exact (indexAddr_res R E (hok x (by simp)) (hok y (by simp)) hc hs).value
  case index t x y => exact (index_res R E (hok x (by simp)) (hok y (by simp)) hc hs).value
  case extract x i =>
    obtain rfl := Option.some.inj hc
    exact (ext_res R E (hok x (by simp)) hs).value
  case call c =>
    obtain ⟨callee, args, argTypes⟩ := c
    have hok2 : ∀ x ∈ args, okX x = true := fun x hx => hok x (by simp [Call.operands, hx])
    unfold cCall at hc
    simp only at hc
    split at hc
    · obtain rfl := Option.some.inj hc
      exact absurd rfl (hcall _ _)
    · have := (len_res (ty := type) R E hok2 hc hs).value
      simpa [execOp, resolve, invoke, builtin] using this
    · have := (appb_res (ty := type) R E hok2 hc hs).value
      simpa [execOp, resolve, invoke, builtin] using this
    · have := (cpy_res (ty := type) R E hok2 hc hs).value
      simpa [execOp, resolve, invoke, builtin] using this
    · split at hc
      · rename_i x y hxy
        obtain rfl := Option.some.inj hc
        have hx' : args = #[x, y] := by apply Array.ext'; simpa using hxy
        subst hx'
        have := (mn_res (ts := argTypes) (ty := type) R E (hok2 x (by simp)) (hok2 y (by simp)) hs).value
        simpa [execOp, resolve, invoke, builtin] using this
      · simp at hc
    · split at hc
      · rename_i x y hxy
        obtain rfl := Option.some.inj hc
        have hx' : args = #[x, y] := by apply Array.ext'; simpa using hxy
        subst hx'
        have := (mx_res (ts := argTypes) (ty := type) R E (hok2 x (by simp)) (hok2 y (by simp)) hs).value
        simpa [execOp, resolve, invoke, builtin] using this
      · simp at hc
    · simp at hc

end
end Go.Lev


set_option linter.unusedVariables false
set_option linter.unusedSimpArgs false
namespace Go.Lev
open Go Go.RowKit

theorem comp_call {P : Program} {m : Bool} {o : Oper} {f : Operand} {xs : List Operand} (hc : comp P m o = some (.call f xs)) :
    ∃ c : Call, o.op = .call c ∧ c.callee = .value f ∧ xs = c.args.toList ∧ okX f = true ∧ ∀ x ∈ c.args, okX x = true := by
  unfold comp at hc
  split at hc
  case isFalse => simp at hc
  rename_i hall
  have hok := operands_ok hall
  obtain ⟨dst, op, type, pos, after, guard⟩ := o
  cases op <;> simp only [compIn] at hc <;> simp only [Op.operands] at hok <;> try (simp at hc; done)
  case call c =>
    obtain ⟨callee, args, argTypes⟩ := c
    cases callee with
    | value g =>
      simp only [cCall, Option.some.injEq, LO.call.injEq] at hc
      obtain ⟨rfl, rfl⟩ := hc
      exact ⟨_, rfl, rfl, rfl, hok g (by simp [Call.operands]), fun x hx => hok x (by simp [Call.operands, hx])⟩
    | invoke r n => simp [cCall] at hc
    | builtin b =>
      exfalso
      cases b <;> simp only [cCall] at hc <;> first
        | (simp at hc; done)
        | (unfold cLen at hc; (repeat' (split at hc)) <;> (simp at hc; done))
        | (unfold cApp at hc; (repeat' (split at hc)) <;> (simp at hc; done))
        | (unfold cCpy at hc; (repeat' (split at hc)) <;> (simp at hc; done))
        | (split at hc <;> simp at hc)
  case makeFunc fn a b => cases fn <;> simp at hc
  case slice t x lo hi mx => split at hc <;> first | (simp at hc; done) | (unfold cSlice at hc; (repeat' (split at hc)) <;> (simp at hc; done))
  all_goals first
    | (unfold cAlloc at hc; (repeat' (split at hc)) <;> (simp at hc; done))
    | (unfold cBuild at hc; (repeat' (split at hc)) <;> (simp at hc; done))
    | (unfold cRow at hc; (repeat' (split at hc)) <;> (simp at hc; done))
    | (unfold cLoad at hc; (repeat' (split at hc)) <;> (simp at hc; done))
    | (unfold cStore at hc; simp at hc; done)
    | (unfold cBin at hc; (repeat' (split at hc)) <;> first | (simp at hc; done) | (obtain hc := Option.some.inj hc; exact absurd hc (by simp)))
    | (unfold cConv at hc; (repeat' (split at hc)) <;> (simp at hc; done))
    | (unfold cMkI at hc; (repeat' (split at hc)) <;> (simp at hc; done))
    | (unfold cMk at hc; (repeat' (split at hc)) <;> (simp at hc; done))
    | (unfold cFieldAddr at hc; (repeat' (split at hc)) <;> (simp at hc; done))
    | (unfold cField at hc; (repeat' (split at hc)) <;> (simp at hc; done))
    | (unfold cIndexAddr at hc; (repeat' (split at hc)) <;> (simp at hc; done))
    | (unfold cIndex at hc; (repeat' (split at hc)) <;> (simp at hc; done))

theorem comp_nodefer {P : Program} {m : Bool} {o : Oper} {lo : LO} (hc : comp P m o = some lo) : ∀ c, o.op ≠ .defer c := by
  intro c hd
  unfold comp at hc
  split at hc
  · obtain ⟨dst, op, type, pos, after, guard⟩ := o
    simp only at hd
    subst hd
    simp [compIn] at hc
  · simp at hc

/-- All functions are let in, no bound on the depth; r: of what make the frame is. -/
def FW (r : Option Nat) : Fence := { Fence.wide with round := r }

theorem callsIn_FW {r : Option Nat} {n : Nat} {P : Program} {f : FuncId} {args : Array Value} {w : World} {R : Ending → World → Prop} : CallsIn (FW r) n P f args w R ↔ Calls P f args w R := callsIn_wide (n := n)

section
variable {P : Program} {T : Tab} {fl : Nat} {env : Nat → Value} {H H' : Heap} {w0 w : World} {ρ : Nat → RB} {a : Act} {v : Value}

/-- An operation, a call too. -/
theorem op_wp (hT : Valid P w0 T) (R : Rel w0 ρ H w) (E : ERel H.length ρ w.heap env a) {m : Bool} {o : Oper} {lo : LO} (hc : comp P m o = some lo) (hs : lo.step P T fl env H = some (v, H')) {r : Option Nat} {n : Nat} {next : Act → World → Prop} {Q : Exit → Act → World → Prop}
    (hn : ∀ v' w' ρ', VRel H'.length ρ' w'.heap v v' → Rel w0 ρ' H' w' → Ext H.length ρ w.heap H'.length ρ' w'.heap → next (a.put o.dst v') w') : o.wpIn (FW r) n P a w next Q := by
  refine ⟨fun _ _ => trivial, ?_⟩
  rw [Oper.semAt_eq _ _ _ (comp_nodefer hc)]
  by_cases hcall : ∃ f xs, lo = .call f xs
  · obtain ⟨f, xs, rfl⟩ := hcall
    obtain ⟨c, ho, hcal, rfl, hf, hxs⟩ := comp_call hc
    simp only [LO.step] at hs
    split at hs
    · rename_i k first captured hev
      obtain ⟨⟨fn, hfn, hname, hbody⟩, _, hcalls⟩ := hT k fl _ H v H' hs
      have hv := E.ev hf
      rw [hev] at hv
      have hreal : ∃ fs cs : Array Value, a.eval f = .func (.func k) fs cs ∧ LRel H.length ρ w.heap first.toList fs.toList ∧ LRel H.length ρ w.heap captured.toList cs.toList := by
        generalize a.eval f = X at hv
        cases hv with
        | func _ _ fs _ cs h1 h2 h3 h4 =>
          exact ⟨fs, cs, rfl, ⟨by simpa using h1, fun i u u' q1 q2 => h2 i u u' (by simpa using q1) (by simpa using q2)⟩, ⟨by simpa using h3, fun i u u' q1 q2 => h4 i u u' (by simpa using q1) (by simpa using q2)⟩⟩
      obtain ⟨fs, cs, hef, hfs, hcs⟩ := hreal
      have hargs : LRel H.length ρ w.heap (c.args.toList.map (evO env)) (c.args.map a.eval).toList := by
        refine ⟨by simp, fun i u u' q1 q2 => ?_⟩
        simp only [List.getElem?_map, Option.map_eq_some_iff, Array.toList_map] at q1 q2
        obtain ⟨x, hx, rfl⟩ := q1
        obtain ⟨y, hy, rfl⟩ := q2
        rw [hx] at hy
        obtain rfl := Option.some.inj hy
        exact E.ev (hxs x (by simpa using List.mem_of_getElem? hx))
      have hall : LRel H.length ρ w.heap (first.toList ++ c.args.toList.map (evO env) ++ captured.toList) (fs ++ c.args.map a.eval ++ cs).toList := by
        simpa using (hfs.app hargs).app hcs
      have hrun : (execOp a.eval o).run P w = .ok (.enter k (fs ++ c.args.map a.eval ++ cs)) w := by
        have hb2 : fn.body ≠ none := by intro h; simp [h] at hbody
        have hn2 : ¬ fn.name = "runtime.NumGoroutine" := by
          intro h
          rw [h] at hname
          simp at hname
        simp [execOp, ho, resolve, hcal, hef, Deferred.ofValue, invoke, callFunc, hfn, hn2, hb2]
      rw [hrun, Oper.uponIn_enter]
      refine ⟨fun h => by simp [FW, Fence.wide] at h, (callsIn_FW.2 (hcalls ρ w _ R hall)).mono ?_⟩
      rintro e w' ⟨v', ρ', rfl, h1, h2, h3⟩
      exact hn v' w' ρ' h1 h2 h3
    · simp at hs
  · obtain ⟨n, v', w', ρ', h1, h2, h3, h4, h5⟩ := comp_res R E hc (fun f xs h => hcall ⟨f, xs, h⟩) hs
    rw [h1]
    rcases h2 with rfl | ⟨rfl, rfl⟩
    · rw [Oper.uponIn_value]; exact hn v' w' ρ' h3 h4 h5
    · rw [Oper.uponIn_skip]; exact hn undef w' ρ' h3 h4 h5
end

/-- What an activation has among its deferred calls: marks of loops over functions, no call. -/
def Marks (n0 : Nat) (h : Array Obj) (ds : List Deferred) : Prop :=
  ∃ rs : List Nat, ds = rs.map (fun r => ({ target := .collected r, args := #[] } : Deferred)) ∧ rs.Nodup ∧ ∀ r ∈ rs, n0 ≤ r ∧ h[r]? = some (.deferred (some []))

theorem Marks.nil (n0 : Nat) (h : Array Obj) : Marks n0 h [] := ⟨[], rfl, .nil, fun _ h => by simp at h⟩

theorem Rel.noBox {w0 w : World} {ρ : Nat → RB} {H : Heap} (R : Rel w0 ρ H w) {k : Nat} {o : Obj} (hk : w.heap[k]? = some o) (ho : ∀ cs e fr, o ≠ .cells cs e fr) : ∀ id, id < H.length → (ρ id).blk ≠ k := by
  intro id hid he
  obtain ⟨cs, e, fr, q1, _⟩ := (R.box id _ (List.getElem?_eq_getElem hid)).cells
  rw [he, hk] at q1
  exact ho _ _ _ (Option.some.inj q1)

theorem Marks.ext {w0 w w' : World} {ρ ρ' : Nat → RB} {H : Heap} {N' n0 : Nat} {ds : List Deferred} (R : Rel w0 ρ H w) (X : Ext H.length ρ w.heap N' ρ' w'.heap) (M : Marks n0 w.heap ds) : Marks n0 w'.heap ds := by
  obtain ⟨rs, rfl, hnd, h⟩ := M
  refine ⟨rs, rfl, hnd, fun r hr => ⟨(h r hr).1, ?_⟩⟩
  have h2 := (h r hr).2
  rw [X.frame r (Array.getElem?_eq_some_iff.1 h2).1 (R.noBox h2 fun _ _ _ e => by cases e)]
  exact h2

/-- A frame and a world, told by a state. -/
structure SRel (w0 : World) (ρ : Nat → RB) (nt n0 : Nat) (st : St) (a : Act) (w : World) : Prop where
  rel : Rel w0 ρ st.heap w
  env : ERel st.heap.length ρ w.heap st.env a
  size : a.tmps.size = nt
  defers : Marks n0 w.heap a.defers
  base : n0 ≤ w.heap.size

theorem ERel.put {N : Nat} {ρ : Nat → RB} {h : Array Obj} {env : Nat → Value} {a : Act} (E : ERel N ρ h env a) {dst : Option Nat} (hd : ∀ d, dst = some d → d < a.tmps.size) {v v' : Value} (hv : VRel N ρ h v v') : ERel N ρ h (put env dst v) (a.put dst v') := by
  intro t
  cases dst with
  | none => exact E t
  | some d =>
    have hlt := hd d rfl
    simp only [Lev.put, upd, Act.put]
    by_cases htd : t = d
    · subst htd
      rw [if_pos rfl]
      have : (a.tmps.setIfInBounds t v').getD t undef = v' := by simp [Array.getD, hlt]
      rw [this]
      exact hv
    · rw [if_neg htd]
      have : (a.tmps.setIfInBounds d v').getD t undef = a.tmps.getD t undef := by
        simp only [Array.getD_eq_getD_getElem?]
        rw [Array.getElem?_setIfInBounds_ne (Ne.symm htd)]
      rw [this]
      exact E t

def marksOf (ops : List Oper) : List Nat := ops.filterMap fun o => match o.op with
  | .call { callee := .builtin .append, args, .. } => match args.toList with
    | [_, .tmp t] => some t
    | _ => none
  | _ => none

def dstOK (nt : Nat) : Option Nat → Bool
  | some d => decide (d < nt)
  | none => true

def cROp (P : Program) (nt : Nat) (ops : Array Oper) (marks : List Nat) (o : Oper) : Option ROp :=
  match comp P (match o.dst with | some d => marks.contains d | none => false) o with
  | some lo =>
    if dstOK nt o.dst then
      match o.guard with
      | none => some ⟨none, o.dst, lo⟩
      | some (j, want) => match (ops[j]?).bind (·.dst) with
        | some t => if t < nt then some ⟨some (t, want), o.dst, lo⟩ else none
        | none => none
    else none
  | none => none

theorem cROp_some {P : Program} {nt : Nat} {ops : Array Oper} {marks : List Nat} {o : Oper} {r : ROp} (h : cROp P nt ops marks o = some r) :
    ∃ m, comp P m o = some r.lo ∧ r.dst = o.dst ∧ dstOK nt o.dst = true ∧
      ((o.guard = none ∧ r.guard = none) ∨ ∃ j want t, o.guard = some (j, want) ∧ (ops[j]?).bind (·.dst) = some t ∧ t < nt ∧ r.guard = some (t, want)) := by
  unfold cROp at h
  split at h
  · rename_i lo hlo
    split at h
    · rename_i hd
      split at h
      · rename_i hg
        obtain rfl := Option.some.inj h
        exact ⟨_, hlo, rfl, hd, .inl ⟨hg, rfl⟩⟩
      · rename_i j want hg
        split at h
        · rename_i t ht
          split at h
          · rename_i hlt
            obtain rfl := Option.some.inj h
            exact ⟨_, hlo, rfl, hd, .inr ⟨j, want, t, hg, ht, hlt, rfl⟩⟩
          · simp at h
        · simp at h
    · simp at h
  · simp at h

theorem wanted_eq {P : Program} {nt : Nat} {ops : Array Oper} {marks : List Nat} {o : Oper} {r : ROp} (h : cROp P nt ops marks o = some r) {N : Nat} {ρ : Nat → RB} {hp : Array Obj} {env : Nat → Value} {a : Act} (E : ERel N ρ hp env a) (hsz : a.tmps.size = nt) :
    Region.wanted o (yielded ops a.tmps) = guardOn env r.guard := by
  obtain ⟨m, _, _, _, hg⟩ := cROp_some h
  rcases hg with ⟨h1, h2⟩ | ⟨j, want, t, h1, h2, h3, h4⟩
  · simp [Region.wanted, h1, h2, guardOn]
  · simp only [Region.wanted, h1, h4, guardOn, yielded, h2, Option.bind_some]
    have hv := E t
    have hget : a.tmps[t]? = some (a.tmps.getD t undef) := by
      have h3' : t < a.tmps.size := by rw [hsz]; exact h3
      rw [Array.getElem?_eq_getElem h3']
      simp [Array.getD, h3']
    rw [hget]
    generalize a.tmps.getD t undef = X at hv ⊢
    generalize env t = Y at hv ⊢
    cases hv <;> first | rfl | (simp; done) | (rename_i b; cases b <;> cases want <;> rfl)

def runI (P : Program) (T : Tab) (fl : Nat) (rops : List ROp) : List Nat → St → Option St
  | [], st => some st
  | i :: σ, st => match rops[i]? with
    | none => none
    | some r => match r.step P T fl st with
      | some st' => runI P T fl rops σ st'
      | none => none

theorem callP_call {P : Program} {T : Tab} {fl : Nat} {env : Nat → Value} {H : Heap} {l : List Nat} {f : Operand} {xs : List Operand} {r : Value × Heap} (h : LO.step P T fl env H (.callP l f xs) = some r) : LO.step P T fl env H (.call f xs) = some r := by
  simp only [LO.step] at h ⊢
  split at h
  · rename_i k first captured hev
    try rw [hev]
    split at h
    · exact h
    · simp at h
  · simp at h

/-- The region's operations and its compact ones. -/
structure RegRel (P : Program) (nt : Nat) (ops : Array Oper) (rops : List ROp) : Prop where
  len : rops.length = ops.size
  each : ∀ (i : Nat) (o : Oper) (r : ROp), ops[i]? = some o → rops[i]? = some r → ∃ marks r0, cROp P nt ops marks o = some r0 ∧ r0.guard = r.guard ∧ r0.dst = r.dst ∧ (r.lo = r0.lo ∨ ∃ l f xs, r.lo = .callP l f xs ∧ r0.lo = .call f xs)

section
variable {P : Program} {T : Tab} {fl nt n0 n : Nat} {r0 : Option Nat} {w0 w : World} {ρ : Nat → RB} {a : Act} {st st' : St} {ops : Array Oper} {rops : List ROp}

theorem rop_wp (hT : Valid P w0 T) (hR : RegRel P nt ops rops) {i : Nat} {r : ROp} (hr : rops[i]? = some r) (S : SRel w0 ρ nt n0 st a w) (hs : r.step P T fl st = some st') {K : Act → World → Prop} {Q : Exit → Act → World → Prop}
    (hn : ∀ a' w' ρ', SRel w0 ρ' nt n0 st' a' w' → Ext st.heap.length ρ w.heap st'.heap.length ρ' w'.heap → K a' w') : wpOpIn (FW r0) n P ops Q i K a w := by
  have hi : i < ops.size := by have := (List.getElem?_eq_some_iff.1 hr).1; have := hR.len; omega
  obtain ⟨o, ho⟩ : ∃ o, ops[i]? = some o := ⟨_, Array.getElem?_eq_getElem hi⟩
  obtain ⟨marks, rz, hc, hz1, hz2, hz3⟩ := hR.each i o r ho hr
  have hw := wanted_eq hc S.env S.size
  rw [hz1] at hw
  obtain ⟨m, hcomp, hdst, hdok, _⟩ := cROp_some hc
  rw [hz2] at hdst
  have hdlt : ∀ d, o.dst = some d → d < a.tmps.size := fun d hd => by
    rw [hd] at hdok
    rw [S.size]
    simpa [dstOK] using hdok
  have putd : ∀ v, (a.put o.dst v).defers = a.defers := fun v => by cases o.dst <;> simp [Act.put]
  have putsz : ∀ v, (a.put o.dst v).tmps.size = nt := fun v => by have := S.size; cases o.dst <;> simpa [Act.put] using this
  unfold wpOpIn
  simp only [ho, hw]
  unfold ROp.step at hs
  split at hs
  · rename_i hg
    rw [hg]
    simp only [if_true]
    split at hs
    · rename_i v H' hstep
      obtain rfl := Option.some.inj hs
      have hstep : rz.lo.step P T fl st.env st.heap = some (v, H') := by
        rcases hz3 with e | ⟨l, f, xs, e1, e2⟩
        · rw [← e]; exact hstep
        · rw [e1] at hstep
          rw [e2]
          exact callP_call hstep
      refine op_wp hT S.rel S.env hcomp hstep fun v' w' ρ' h1 h2 h3 => ?_
      refine hn _ _ ρ' ⟨h2, ?_, putsz v', by rw [putd v']; exact S.defers.ext S.rel h3, Nat.le_trans S.base h3.size⟩ h3
      rw [hdst]
      exact (S.env.mono h3).put hdlt h1
    · simp at hs
  · rename_i hg
    have hg' : guardOn st.env r.guard = false := by simpa using hg
    rw [hg']
    obtain rfl := Option.some.inj hs
    simp only [Bool.false_eq_true, if_false]
    refine ⟨fun _ _ => trivial, ?_⟩
    refine hn _ _ ρ ⟨S.rel, ?_, putsz undef, by rw [putd undef]; exact S.defers, S.base⟩ (.refl _ _ _)
    rw [hdst]
    exact S.env.put hdlt (.undef _ _ _)

theorem wpOps_runI (hT : Valid P w0 T) (hR : RegRel P nt ops rops) {Q : Exit → Act → World → Prop} : ∀ (σ : List Nat) (st : St) (a : Act) (w : World) (ρ : Nat → RB), SRel w0 ρ nt n0 st a w → runI P T fl rops σ st = some st' →
    (∀ a' w' ρ', SRel w0 ρ' nt n0 st' a' w' → Ext st.heap.length ρ w.heap st'.heap.length ρ' w'.heap → Q .normal a' w') → wpOpsIn (FW r0) n P ops Q σ a w
  | [], st, a, w, ρ, S, h, hq => by
    simp only [runI, Option.some.injEq] at h
    subst h
    exact hq a w ρ S (.refl _ _ _)
  | i :: σ, st, a, w, ρ, S, h, hq => by
    simp only [runI] at h
    split at h
    · simp at h
    · rename_i r hr
      split at h
      · rename_i st1 h1
        rw [wpOpsIn_cons]
        refine rop_wp hT hR hr S h1 fun a' w' ρ' S' X => ?_
        exact wpOps_runI hT hR σ st1 a' w' ρ' S' h fun a2 w2 ρ2 S2 X2 => hq a2 w2 ρ2 S2 (X.trans X2)
      · simp at h

theorem runOps_runI (rops : List ROp) : ∀ (l : List ROp) (k : Nat) (st : St), (∀ j, l[j]? = rops[k + j]?) → runOps P T fl l st = runI P T fl rops (List.range' k l.length) st
  | [], k, st, h => rfl
  | r :: l, k, st, h => by
    have h0 := h 0
    simp only [List.getElem?_cons_zero, Nat.add_zero] at h0
    simp only [List.length_cons, List.range'_succ, runOps, runI, ← h0]
    cases r.step P T fl st with
    | none => rfl
    | some st1 => exact runOps_runI rops l (k + 1) st1 fun j => by have := h (j + 1); simpa [Nat.add_assoc, Nat.add_comm 1 j] using this

theorem wp_region_lev (hT : Valid P w0 T) (hR : RegRel P nt ops rops) {id : Nat} {Q : Exit → Act → World → Prop} (S : SRel w0 ρ nt n0 st a w) (h : runOps P T fl rops st = some st')
    (hq : ∀ a' w' ρ', SRel w0 ρ' nt n0 st' a' w' → Ext st.heap.length ρ w.heap st'.heap.length ρ' w'.heap → Q .normal a' w') : (Code.region id ops false).wpIn (FW r0) n P Q a w := by
  refine wpIn_region (wpOps_runI (fl := fl) hT hR _ st a w ρ S ?_ hq)
  rw [runOps_runI rops rops 0 st (fun j => by simp), hR.len] at h
  rw [List.range_eq_range']
  exact h
end
end Go.Lev


set_option linter.unusedVariables false
set_option linter.unusedSimpArgs false
namespace Go.Lev
open Go Go.RowKit

def oList : Option Operand → List Operand
  | some x => [x]
  | none => []
def pList (ps : List (Nat × Nat × Operand)) : List Operand := ps.map (·.2.2)

def LO.opnds : LO → List Operand
  | .mv x | .nilchk x | .un _ x | .convI _ x | .convIF _ x | .convS x | .isNil _ _ x | .box x | .load1 x | .loadN _ x | .fad _ x | .fld1 _ x | .fldN _ _ x | .mkI _ x | .ext x _ | .lenT x | .lenS x | .b2s x => [x]
  | .pick c a b => [c, a, b]
  | .bin _ x y | .binB _ x y | .eqA _ _ x y | .store _ x y | .iadA _ _ x y | .iadS _ x y | .ix1 _ x y | .ixN _ _ x y | .ixS x y | .mn x y | .mx x y | .mk _ _ _ x y | .app _ _ x y | .cpy _ x y => [x, y]
  | .pr o => o.op.operands.toList
  | .alloc _ | .lenA _ => []
  | .build _ ps | .row _ _ _ ps | .rowM _ _ ps => pList ps
  | .slcT x lo hi | .slcA _ _ x lo hi => [x] ++ oList lo ++ oList hi
  | .slc _ x lo hi mc => [x] ++ oList lo ++ oList hi ++ oList mc
  | .mkf _ fs cs => fs ++ cs
  | .call f xs => f :: xs
  | .callP _ f xs => f :: xs

theorem bnd_congr {env env' : Nat → Value} {d : Nat} {x : Option Operand} (h : ∀ y ∈ oList x, evO env y = evO env' y) : bnd env d x = bnd env' d x := by
  cases x with
  | none => rfl
  | some y => simp only [bnd, h y (by simp [oList])]

theorem parts_congr {env env' : Nat → Value} {ps : List (Nat × Nat × Operand)} (h : ∀ y ∈ pList ps, evO env y = evO env' y) : evParts env ps = evParts env' ps := by
  unfold evParts
  apply List.map_congr_left
  intro p hp
  obtain ⟨o, s, x⟩ := p
  simp only [h x (by simp only [pList, List.mem_map]; exact ⟨_, hp, rfl⟩)]

theorem map_congr' {env env' : Nat → Value} {xs : List Operand} (h : ∀ y ∈ xs, evO env y = evO env' y) : xs.map (evO env) = xs.map (evO env') := List.map_congr_left h

theorem step_congr {P : Program} {T : Tab} {fl : Nat} {H : Heap} {env env' : Nat → Value} (lo : LO) (hsel : ∀ o, lo = .pr o → ∀ cs b, o.op ≠ .select cs b) (h : ∀ y ∈ lo.opnds, evO env y = evO env' y) : lo.step P T fl env H = lo.step P T fl env' H := by
  cases lo <;> simp only [LO.opnds] at h
  case pr o =>
    have e1 : execOp (evO env) o = execOp (evO env') o := execOp_congr o (hsel o rfl) fun x hx => h x (by simpa using hx)
    have e2 : o.op.operands.all (fun x => isSc (evO env x)) = o.op.operands.all (fun x => isSc (evO env' x)) := by
      rw [Bool.eq_iff_iff, Array.all_eq_true_iff_forall_mem, Array.all_eq_true_iff_forall_mem]
      constructor
      · intro q x hx
        rw [← h x (by simpa using hx)]
        exact q x hx
      · intro q x hx
        rw [h x (by simpa using hx)]
        exact q x hx
    simp only [LO.step, e1, e2]
  case build z ps => simp only [LO.step, parts_congr h]
  case row a b z ps => simp only [LO.step, parts_congr h]
  case rowM b z ps => simp only [LO.step, parts_congr h]
  case slcT x lo hi =>
    simp only [LO.step, h x (by simp), bnd_congr (x := lo) (env := env) (env' := env') fun y hy => h y (by simp [hy]), bnd_congr (x := hi) (env := env) (env' := env') fun y hy => h y (by simp [hy])]
  case slcA a b x lo hi =>
    simp only [LO.step, h x (by simp), bnd_congr (x := lo) (env := env) (env' := env') fun y hy => h y (by simp [hy]), bnd_congr (x := hi) (env := env) (env' := env') fun y hy => h y (by simp [hy])]
  case slc a x lo hi mx =>
    simp only [LO.step, h x (by simp), bnd_congr (x := lo) (env := env) (env' := env') fun y hy => h y (by simp [hy]), bnd_congr (x := hi) (env := env) (env' := env') fun y hy => h y (by simp [hy]), bnd_congr (x := mx) (env := env) (env' := env') fun y hy => h y (by simp [hy])]
  case mkf f fs cs => simp only [LO.step, map_congr' (xs := fs) fun y hy => h y (by simp [hy]), map_congr' (xs := cs) fun y hy => h y (by simp [hy])]
  case call f xs => simp only [LO.step, h f (by simp), map_congr' (xs := xs) fun y hy => h y (by simp [hy])]
  case callP l f xs => simp only [LO.step, h f (by simp), map_congr' (xs := xs) fun y hy => h y (by simp [hy])]
  case pick c a b => simp only [LO.step, h c (by simp), h a (by simp), h b (by simp)]
  case alloc => rfl
  case lenA => rfl
  all_goals first
    | (rename_i x; simp only [LO.step, h x (by simp)]; done)
    | (rename_i x _; simp only [LO.step, h x (by simp)]; done)
    | (rename_i x y; simp only [LO.step, h x (by simp), h y (by simp)]; done)

/-- 0: nothing of memory; 1: reads; 2: may turn it. -/
def LO.cls (pf : FuncId → Bool) : LO → Nat
  | .load1 _ | .loadN _ _ | .b2s _ => 1
  | .call (.func k) _ => if pf k then 1 else 2
  | .callP l _ _ => if l.all pf then 1 else 2
  | .call _ _ | .store _ _ _ | .alloc _ | .box _ | .row _ _ _ _ | .mk _ _ _ _ _ | .app _ _ _ _ | .cpy _ _ _ => 2
  | _ => 0

/-- A table whose rows of the given functions leave the memory as it is; or only lay new boxes (the number and a million). -/
def PureOK (T : Tab) (pf : FuncId → Bool) : Prop := ∀ k, (pf k = true → ∀ fl args H v H', T k fl args H = some (v, H') → H' = H) ∧ (pf (k + 1000000) = true → ∀ fl args H v H', T k fl args H = some (v, H') → ∃ L, H' = H ++ L)

theorem cls0 {P : Program} {T : Tab} {fl : Nat} {pf : FuncId → Bool} {env : Nat → Value} {H H' : Heap} {v : Value} {lo : LO} (hc : lo.cls pf = 0) (hs : lo.step P T fl env H = some (v, H')) : H' = H ∧ ∀ K, lo.step P T fl env K = some (v, K) := by
  have key : H' = H → (∀ K, lo.step P T fl env K = (lo.step P T fl env H).map fun p => (p.1, K)) → H' = H ∧ ∀ K, lo.step P T fl env K = some (v, K) := fun h1 h2 => ⟨h1, fun K => by rw [h2 K, hs]; rfl⟩
  cases lo <;> simp only [LO.cls] at hc <;> try (simp at hc; done)
  case call f xs => cases f <;> simp at hc; split at hc <;> simp at hc
  case callP l f xs => split at hc <;> simp at hc
  all_goals
    refine key ?_ ?_
    · simp only [LO.step] at hs
      first
        | (simp only [Option.some.injEq, Prod.mk.injEq] at hs; exact hs.2.symm)
        | (simp only [Option.map_eq_some_iff, Prod.mk.injEq] at hs; obtain ⟨_, _, _, h⟩ := hs; exact h.symm)
        | ((repeat' (split at hs)) <;> first
             | (simp at hs; done)
             | (simp only [Option.some.injEq, Prod.mk.injEq] at hs; exact hs.2.symm)
             | (simp only [Option.map_eq_some_iff, Prod.mk.injEq] at hs; obtain ⟨_, _, _, h⟩ := hs; exact h.symm))
    · intro K
      simp only [LO.step]
      first
        | rfl
        | (simp only [Option.map_map]; rfl)
        | ((repeat' split) <;> first | rfl | (simp only [Option.map_map]; rfl))

theorem cls1 {P : Program} {T : Tab} {fl : Nat} {pf : FuncId → Bool} (hp : PureOK T pf) {env : Nat → Value} {H H' : Heap} {v : Value} {lo : LO} (hc : lo.cls pf = 1) (hs : lo.step P T fl env H = some (v, H')) : H' = H := by
  cases lo <;> simp only [LO.cls] at hc <;> try (simp at hc; done)
  case load1 x =>
    simp only [LO.step] at hs
    split at hs
    · simp only [Option.map_eq_some_iff, Prod.mk.injEq] at hs; obtain ⟨_, _, _, h⟩ := hs; exact h.symm
    · simp at hs
  case loadN n x =>
    simp only [LO.step] at hs
    split at hs
    · simp only [Option.map_eq_some_iff, Prod.mk.injEq] at hs; obtain ⟨_, _, _, h⟩ := hs; exact h.symm
    · simp at hs
  case b2s x =>
    simp only [LO.step] at hs
    split at hs
    · simp only [Option.some.injEq, Prod.mk.injEq] at hs; exact hs.2.symm
    · split at hs
      · simp only [Option.map_eq_some_iff, Prod.mk.injEq] at hs; obtain ⟨_, _, _, h⟩ := hs; exact h.symm
      · simp at hs
    · simp at hs
  case call f xs =>
    cases f with
    | func k =>
      simp only at hc
      split at hc
      · rename_i hk
        simp only [LO.step, evO] at hs
        exact (hp k).1 hk _ _ _ _ _ hs
      · simp at hc
    | _ => simp at hc

  case callP l f xs =>
    split at hc
    · rename_i hl
      simp only [LO.step] at hs
      split at hs
      · rename_i k first captured _
        split at hs
        · rename_i hk
          exact (hp k).1 (List.all_eq_true.1 hl k (by simpa using hk)) _ _ _ _ _ hs
        · simp at hs
      · simp at hs
    · simp at hc

def tmpsOf (xs : List Operand) : List Nat := xs.filterMap fun | .tmp t => some t | _ => none
def ROp.reads (r : ROp) : List Nat := tmpsOf r.lo.opnds ++ (match r.guard with | some (t, _) => [t] | none => [])
def isSel (lo : LO) : Bool := match lo with
  | .pr o => (match o.op with | .select _ _ => true | _ => false)
  | _ => false

/-- A load at an address. -/
def isRd : LO → Bool
  | .load1 _ | .loadN _ _ => true
  | _ => false
def isSt : LO → Bool
  | .store _ _ _ => true
  | _ => false
/-- It only lays new boxes. -/
def isExt (pf : FuncId → Bool) : LO → Bool
  | .alloc _ | .box _ | .row _ _ _ _ | .mk _ _ _ _ _ => true
  | .call (.func k) _ => pf (k + 1000000)
  | _ => false

theorem ext_step {P : Program} {T : Tab} {fl : Nat} {pf : FuncId → Bool} (hp : PureOK T pf) {env : Nat → Value} {H H' : Heap} {v : Value} {lo : LO} (hc : isExt pf lo = true) (hs : lo.step P T fl env H = some (v, H')) : ∃ L, H' = H ++ L := by
  cases lo <;> simp only [isExt] at hc <;> try (simp at hc; done)
  case alloc z => simp only [LO.step, Option.some.injEq, Prod.mk.injEq] at hs; obtain ⟨_, rfl⟩ := hs; exact ⟨_, rfl⟩
  case box x => simp only [LO.step, Option.some.injEq, Prod.mk.injEq] at hs; obtain ⟨_, rfl⟩ := hs; exact ⟨_, rfl⟩
  case row a b c d => simp only [LO.step, Option.map_eq_some_iff, Prod.mk.injEq] at hs; obtain ⟨_, _, _, rfl⟩ := hs; exact ⟨_, rfl⟩
  case mk a b c d e =>
    simp only [LO.step] at hs
    split at hs
    · split at hs
      · simp only [Option.some.injEq, Prod.mk.injEq] at hs; obtain ⟨_, rfl⟩ := hs; exact ⟨_, rfl⟩
      · simp at hs
    · simp at hs
  case call f xs =>
    cases f with
    | func k =>
      simp only [LO.step, evO] at hs
      exact (hp k).2 hc _ _ _ _ _ hs
    | _ => simp at hc

theorem rd1_ext {H L : Heap} {a : Addr} {v : Value} (h : rd1 H a = some v) : rd1 (H ++ L) a = some v := by
  unfold rd1 at h ⊢
  split at h
  · rename_i b hb
    rw [List.getElem?_append_left (List.getElem?_eq_some_iff.1 hb).1, hb]
    exact h
  · simp at h

theorem rdN_ext {H L : Heap} {a : Addr} {n : Nat} {v : List Value} (h : rdN H a n = some v) : rdN (H ++ L) a n = some v := by
  unfold rdN at h ⊢
  split at h
  · rename_i b hb
    rw [List.getElem?_append_left (List.getElem?_eq_some_iff.1 hb).1, hb]
    exact h
  · simp at h

theorem rd_ext {P : Program} {T : Tab} {fl : Nat} {env : Nat → Value} {H H' : Heap} {v : Value} {lo : LO} (hc : isRd lo = true) (hs : lo.step P T fl env H = some (v, H')) : H' = H ∧ ∀ L, lo.step P T fl env (H ++ L) = some (v, H ++ L) := by
  cases lo <;> simp only [isRd] at hc <;> try (simp at hc; done)
  case load1 x =>
    simp only [LO.step] at hs ⊢
    split at hs
    · simp only [Option.map_eq_some_iff, Prod.mk.injEq] at hs
      obtain ⟨u, hu, rfl, rfl⟩ := hs
      exact ⟨rfl, fun L => by simp [rd1_ext hu]⟩
    · simp at hs
  case loadN n x =>
    simp only [LO.step] at hs ⊢
    split at hs
    · simp only [Option.map_eq_some_iff, Prod.mk.injEq] at hs
      obtain ⟨u, hu, rfl, rfl⟩ := hs
      exact ⟨rfl, fun L => by simp [rdN_ext hu]⟩
    · simp at hs

def regsOK (x y : ROp) : Bool :=
  !isSel x.lo && !isSel y.lo &&
  (match x.dst with
   | some d => !y.reads.contains d && y.dst != some d
   | none => true) &&
  (match y.dst with
   | some d => !x.reads.contains d
   | none => true)

def indep (pf : FuncId → Bool) (x y : ROp) : Bool :=
  regsOK x y &&
  (x.lo.cls pf == 0 || y.lo.cls pf == 0 || (x.lo.cls pf == 1 && y.lo.cls pf == 1) || (isRd x.lo && isExt pf y.lo))

def ROp.eff (P : Program) (T : Tab) (fl : Nat) (r : ROp) (env : Nat → Value) (H : Heap) : Option (Value × Heap) :=
  if guardOn env r.guard then r.lo.step P T fl env H else some (undef, H)

theorem step_eff {P : Program} {T : Tab} {fl : Nat} (r : ROp) (st : St) : r.step P T fl st = (r.eff P T fl st.env st.heap).map fun p => ⟨put st.env r.dst p.1, p.2⟩ := by
  unfold ROp.step ROp.eff
  split
  · cases r.lo.step P T fl st.env st.heap <;> rfl
  · rfl

theorem evO_put {env : Nat → Value} {d : Option Nat} {v : Value} {y : Operand} (h : ∀ t, d = some t → y ≠ .tmp t) : evO (put env d v) y = evO env y := by
  cases d with
  | none => rfl
  | some t =>
    cases y with
    | tmp s =>
      have : s ≠ t := fun e => h t rfl (by rw [e])
      simp [evO, Lev.put, upd, this]
    | _ => rfl

theorem eff_put {P : Program} {T : Tab} {fl : Nat} {r : ROp} (hsel : isSel r.lo = false) {d : Option Nat} (hd : ∀ t, d = some t → t ∉ r.reads) (env : Nat → Value) (H : Heap) (v : Value) : r.eff P T fl (put env d v) H = r.eff P T fl env H := by
  unfold ROp.eff
  have e1 : guardOn (put env d v) r.guard = guardOn env r.guard := by
    cases hg : r.guard with
    | none => rfl
    | some p =>
      obtain ⟨t, w⟩ := p
      cases d with
      | none => rfl
      | some s =>
        have : t ≠ s := fun e => hd s rfl (by subst e; simp [ROp.reads, hg])
        simp [guardOn, Lev.put, upd, this]
  have e2 : r.lo.step P T fl (put env d v) H = r.lo.step P T fl env H := by
    refine step_congr r.lo (fun o ho cs b h => by simp [ho, isSel, h] at hsel) fun y hy => evO_put fun t ht hyt => hd t ht ?_
    subst hyt
    exact List.mem_append_left _ (List.mem_filterMap.2 ⟨_, hy, rfl⟩)
  rw [e1, e2]

theorem eff0 {P : Program} {T : Tab} {fl : Nat} {pf : FuncId → Bool} {r : ROp} (hc : r.lo.cls pf = 0) {env : Nat → Value} {H H' : Heap} {v : Value} (h : r.eff P T fl env H = some (v, H')) : H' = H ∧ ∀ K, r.eff P T fl env K = some (v, K) := by
  unfold ROp.eff at *
  split at h
  · rename_i hg
    simp only [hg, if_true]
    exact cls0 hc h
  · rename_i hg
    simp only [hg, if_false, Bool.false_eq_true]
    simp only [Option.some.injEq, Prod.mk.injEq] at h
    obtain ⟨rfl, rfl⟩ := h
    exact ⟨rfl, fun _ => rfl⟩

theorem eff1 {P : Program} {T : Tab} {fl : Nat} {pf : FuncId → Bool} (hp : PureOK T pf) {r : ROp} (hc : r.lo.cls pf = 1) {env : Nat → Value} {H H' : Heap} {v : Value} (h : r.eff P T fl env H = some (v, H')) : H' = H := by
  unfold ROp.eff at *
  split at h
  · exact cls1 hp hc h
  · simp only [Option.some.injEq, Prod.mk.injEq] at h
    exact h.2.symm

theorem put_comm (env : Nat → Value) {d e : Option Nat} (v u : Value) (h : ∀ t, d = some t → e ≠ some t) : put (put env d v) e u = put (put env e u) d v := by
  cases d with
  | none => rfl
  | some t =>
    cases e with
    | none => rfl
    | some s =>
      have hne : s ≠ t := fun q => h t rfl (by rw [q])
      funext j
      simp only [Lev.put, upd]
      by_cases h1 : j = s
      · subst h1; simp [hne]
      · simp [h1]

theorem swap {P : Program} {T : Tab} {fl : Nat} {pf : FuncId → Bool} (hp : PureOK T pf) {x y : ROp} (hi : indep pf x y = true) {st s1 s2 : St} (h1 : x.step P T fl st = some s1) (h2 : y.step P T fl s1 = some s2) :
    ∃ s, y.step P T fl st = some s ∧ x.step P T fl s = some s2 := by
  unfold indep at hi
  rw [Bool.and_eq_true] at hi
  obtain ⟨hreg, hcls⟩ := hi
  unfold regsOK at hreg
  simp only [Bool.and_eq_true, Bool.or_eq_true, Bool.not_eq_true', beq_iff_eq] at hreg hcls
  obtain ⟨⟨⟨sx, sy⟩, hd⟩, he⟩ := hreg
  have d1 : ∀ t, x.dst = some t → t ∉ y.reads := fun t ht => by
    rw [ht] at hd
    simp at hd
    exact hd.1
  have d2 : ∀ t, x.dst = some t → y.dst ≠ some t := fun t ht => by
    rw [ht] at hd
    simp at hd
    exact hd.2
  have d3 : ∀ t, y.dst = some t → t ∉ x.reads := fun t ht => by
    rw [ht] at he
    simpa using he
  rw [step_eff] at h1 h2
  simp only [Option.map_eq_some_iff, Prod.exists] at h1 h2
  obtain ⟨v, K, hv, rfl⟩ := h1
  obtain ⟨u, L, hu, rfl⟩ := h2
  simp only at hu
  rw [eff_put sy d1] at hu
  rcases hcls with ((hc | hc) | hc) | hc
  · obtain ⟨rfl, hall⟩ := eff0 hc hv
    refine ⟨⟨put st.env y.dst u, L⟩, by rw [step_eff, hu]; rfl, ?_⟩
    rw [step_eff]
    simp only
    rw [eff_put sx d3, hall L]
    simp only [Option.map_some, put_comm st.env v u d2]
  · obtain ⟨rfl, hall⟩ := eff0 hc hu
    refine ⟨⟨put st.env y.dst u, st.heap⟩, by rw [step_eff, hall st.heap]; rfl, ?_⟩
    rw [step_eff]
    simp only
    rw [eff_put sx d3, hv]
    simp only [Option.map_some, put_comm st.env v u d2]
  · have e1 := eff1 hp hc.1 hv
    subst e1
    have e2 := eff1 hp hc.2 hu
    subst e2
    refine ⟨⟨put st.env y.dst u, st.heap⟩, by rw [step_eff, hu]; rfl, ?_⟩
    rw [step_eff]
    simp only
    rw [eff_put sx d3, hv]
    simp only [Option.map_some, put_comm st.env v u d2]
  · have hk : K = st.heap ∧ ∀ L, x.eff P T fl st.env (st.heap ++ L) = some (v, st.heap ++ L) := by
      unfold ROp.eff at hv ⊢
      split at hv
      · rename_i hg
        simp only [hg, if_true]
        exact rd_ext hc.1 hv
      · rename_i hg
        simp only [hg, if_false, Bool.false_eq_true]
        simp only [Option.some.injEq, Prod.mk.injEq] at hv
        obtain ⟨rfl, rfl⟩ := hv
        exact ⟨rfl, fun _ => rfl⟩
    obtain ⟨rfl, hall⟩ := hk
    obtain ⟨Z, rfl⟩ : ∃ Z, L = st.heap ++ Z := by
      unfold ROp.eff at hu
      split at hu
      · exact ext_step hp hc.2 hu
      · simp only [Option.some.injEq, Prod.mk.injEq] at hu
        exact ⟨[], by rw [List.append_nil]; exact hu.2.symm⟩
    refine ⟨⟨put st.env y.dst u, st.heap ++ Z⟩, by rw [step_eff, hu]; rfl, ?_⟩
    rw [step_eff]
    simp only
    rw [eff_put sx d3, hall Z]
    simp only [Option.map_some, put_comm st.env v u d2]

/-- What may go ahead goes ahead. -/
theorem ahead {P : Program} {T : Tab} {fl : Nat} {pf : FuncId → Bool} (hp : PureOK T pf) {rops : List ROp} {i : Nat} {r : ROp} (hr : rops[i]? = some r) : ∀ (js post : List Nat) (st s' : St), (∀ j ∈ js, ∃ x, rops[j]? = some x ∧ indep pf x r = true) →
    runI P T fl rops (js ++ i :: post) st = some s' → ∃ s, r.step P T fl st = some s ∧ runI P T fl rops (js ++ post) s = some s'
  | [], post, st, s', _, h => by
    simp only [List.nil_append, runI, hr] at h
    split at h
    · rename_i s hs
      exact ⟨s, hs, h⟩
    · simp at h
  | j :: js, post, st, s', hj, h => by
    obtain ⟨x, hx, hi⟩ := hj j (by simp)
    simp only [List.cons_append, runI, hx] at h
    split at h
    · rename_i s1 h1
      obtain ⟨s, hs, hrest⟩ := ahead hp hr js post s1 s' (fun k hk => hj k (by simp [hk])) h
      obtain ⟨t, ht1, ht2⟩ := swap hp hi h1 hs
      refine ⟨t, ht1, ?_⟩
      simp only [List.cons_append, runI, hx, ht2]
      exact hrest
    · simp at h

/-- What each operation has ahead of it, as the bits of a number. -/
def maskOf (acc : List Nat) (o : Oper) : Nat := o.after.toList.foldl (fun s e => if Region.binds .any e then (s ||| (2 ^ e.on)) ||| acc.getD e.on 0 else s) 0
def masksFrom : List Oper → List Nat → List Nat
  | [], acc => acc
  | o :: l, acc => masksFrom l (acc ++ [maskOf acc o])

theorem maskOf_bit (acc : List Nat) (o : Oper) (j : Nat) (h : (maskOf acc o).testBit j = true) : ∃ e ∈ o.after, Region.binds .any e = true ∧ (e.on = j ∨ (acc.getD e.on 0).testBit j = true) := by
  unfold maskOf at h
  have key : ∀ (l : List Edge) (s : Nat), (l.foldl (fun s e => if Region.binds .any e then (s ||| (2 ^ e.on)) ||| acc.getD e.on 0 else s) s).testBit j = true → s.testBit j = true ∨ ∃ e ∈ l, Region.binds .any e = true ∧ (e.on = j ∨ (acc.getD e.on 0).testBit j = true) := by
    intro l
    induction l with
    | nil => intro s h; exact .inl h
    | cons e l ih =>
      intro s h
      rw [List.foldl_cons] at h
      rcases ih _ h with h1 | ⟨e', he', h2⟩
      · split at h1
        · rename_i hb
          rw [Nat.testBit_or, Nat.testBit_or, Nat.testBit_two_pow] at h1
          simp only [Bool.or_eq_true, decide_eq_true_eq] at h1
          rcases h1 with (h1 | h1) | h1
          · exact .inl h1
          · exact .inr ⟨e, by simp, hb, .inl h1⟩
          · exact .inr ⟨e, by simp, hb, .inr h1⟩
        · exact .inl h1
      · exact .inr ⟨e', by simp [he'], h2⟩
  rcases key _ _ h with h1 | ⟨e, he, h2⟩
  · simp at h1
  · exact ⟨e, by simpa using he, h2⟩

theorem masksFrom_get : ∀ (l : List Oper) (acc : List Nat) (i : Nat), (masksFrom l acc).length = acc.length + l.length ∧ (i < acc.length → (masksFrom l acc)[i]? = acc[i]?) ∧
    (∀ (k : Nat) (o : Oper), l[k]? = some o → (masksFrom l acc)[acc.length + k]? = some (maskOf ((masksFrom l acc).take (acc.length + k)) o))
  | [], acc, i => ⟨by simp [masksFrom], fun _ => rfl, fun k o h => by simp at h⟩
  | o :: l, acc, i => by
    obtain ⟨h1, h2, h3⟩ := masksFrom_get l (acc ++ [maskOf acc o]) i
    simp only [masksFrom]
    refine ⟨by rw [h1]; simp; omega, fun hi => by rw [h2 (by simp; omega), List.getElem?_append_left hi], fun k o' hk => ?_⟩
    cases k with
    | zero =>
      simp only [List.getElem?_cons_zero, Option.some.injEq] at hk
      subst hk
      obtain ⟨_, g2, _⟩ := masksFrom_get l (acc ++ [maskOf acc o]) acc.length
      have e1 := g2 (by simp)
      rw [Nat.add_zero, e1, List.getElem?_append_right (Nat.le_refl _)]
      simp only [Nat.sub_self, List.getElem?_cons_zero, Option.some.injEq]
      have e2 : (masksFrom l (acc ++ [maskOf acc o])).take acc.length = acc := by
        apply List.ext_getElem?
        intro n
        rw [List.getElem?_take]
        split
        · rename_i hn
          obtain ⟨_, g3, _⟩ := masksFrom_get l (acc ++ [maskOf acc o]) n
          rw [g3 (by simp; omega), List.getElem?_append_left hn]
        · rename_i hn
          rw [List.getElem?_eq_none (by omega)]
      rw [e2]
    | succ k =>
      have := h3 k o' (by simpa using hk)
      simp only [List.length_append, List.length_singleton] at this
      rw [show acc.length + (k + 1) = acc.length + 1 + k by omega]
      exact this

def masks (ops : Array Oper) : List Nat := masksFrom ops.toList []

/-- Ahead of what each operation must wait for, or out of its way. -/
def drawOK (pf : FuncId → Bool) (ops : Array Oper) (rops : List ROp) : Bool :=
  (List.range ops.size).all fun i =>
    ((ops.getD i default).after.all fun e => !Region.binds .any e || decide (e.on < i)) &&
    ((List.range i).all fun j => ((masks ops).getD i 0).testBit j || (match rops[j]?, rops[i]? with
      | some x, some r => indep pf x r
      | _, _ => false))

theorem mask_listed {ops : Array Oper} {listed : Array Bool} (hlt : ∀ (i : Nat) (o : Oper), ops[i]? = some o → ∀ e ∈ o.after, Region.binds .any e = true → e.on < i)
    (hcl : ∀ (k : Nat) (o : Oper), ops[k]? = some o → listed.getD k false = true → ∀ e ∈ o.after, Region.binds .any e = true → listed.getD e.on false = true) (j : Nat) :
    ∀ (n i : Nat) (o : Oper), i < n → ops[i]? = some o → (∀ e ∈ o.after, Region.binds .any e = true → listed.getD e.on false = true) → ((masks ops).getD i 0).testBit j = true → listed.getD j false = true
  | 0, i, o, hi, _, _, _ => by omega
  | n + 1, i, o, hi, ho, hdeps, hb => by
    obtain ⟨g1, _, g3⟩ := masksFrom_get ops.toList [] i
    have e1 := g3 i o (by simpa using ho)
    simp only [List.length_nil, Nat.zero_add] at e1
    unfold masks at hb
    rw [List.getD_eq_getElem?_getD, e1] at hb
    simp only [Option.getD_some] at hb
    obtain ⟨e, he, hbi, h⟩ := maskOf_bit _ _ _ hb
    rcases h with rfl | h
    · exact hdeps e he hbi
    · have hel := hlt i o ho e he hbi
      have his := (Array.getElem?_eq_some_iff.1 ho).1
      have heo : ops[e.on]? = some (ops[e.on]'(by omega)) := Array.getElem?_eq_getElem (by omega)
      refine mask_listed hlt hcl j n e.on _ (by omega) heo (hcl e.on _ heo (hdeps e he hbi)) ?_
      rw [List.getD_eq_getElem?_getD, List.getElem?_take, if_pos hel] at h
      unfold masks
      rw [List.getD_eq_getElem?_getD]
      exact h

def rem (n : Nat) (listed : Array Bool) : List Nat := (List.range n).filter fun i => !listed.getD i true

section
variable {P : Program} {T : Tab} {fl nt n0 n : Nat} {r0 : Option Nat} {w0 w : World} {ρ : Nat → RB} {a : Act} {st st' : St} {ops : Array Oper} {rops : List ROp}

theorem rem_split {n i : Nat} {listed : Array Bool} (hi : i < n) (hl : listed.getD i true = false) (hsz : i < listed.size) :
    ∃ js post, rem n listed = js ++ i :: post ∧ (∀ j ∈ js, j < i ∧ listed.getD j true = false) ∧ rem n (listed.setIfInBounds i true) = js ++ post := by
  refine ⟨(List.range i).filter (fun k => !listed.getD k true), ((List.range' (i + 1) (n - (i + 1)))).filter (fun k => !listed.getD k true), ?_, ?_, ?_⟩
  · unfold rem
    have e : List.range n = List.range i ++ i :: List.range' (i + 1) (n - (i + 1)) := by
      rw [List.range_eq_range', List.range_eq_range']
      have : n = i + (1 + (n - (i + 1))) := by omega
      conv => lhs; rw [this]
      rw [← List.range'_append_1, Nat.add_comm 1, List.range'_succ]
      simp
    rw [e, List.filter_append, List.filter_cons, hl]
    simp
  · intro j hj
    simp only [List.mem_filter, List.mem_range, Bool.not_eq_true'] at hj
    exact hj
  · unfold rem
    have e : List.range n = List.range i ++ i :: List.range' (i + 1) (n - (i + 1)) := by
      rw [List.range_eq_range', List.range_eq_range']
      have : n = i + (1 + (n - (i + 1))) := by omega
      conv => lhs; rw [this]
      rw [← List.range'_append_1, Nat.add_comm 1, List.range'_succ]
      simp
    have hset : (listed.setIfInBounds i true).getD i true = true := by simp [Array.getD, hsz]
    rw [e, List.filter_append, List.filter_cons, hset]
    simp only [Bool.not_true, Bool.false_eq_true, if_false]
    congr 1
    · apply List.filter_congr
      intro k hk
      simp only [List.mem_range] at hk
      rw [getD_set_ne true (by omega)]
    · apply List.filter_congr
      intro k hk
      simp only [List.mem_range'_1] at hk
      rw [getD_set_ne true (by omega)]

theorem wpAny_lev (hT : Valid P w0 T) {pf : FuncId → Bool} (hp : PureOK T pf) (hR : RegRel P nt ops rops) (hd : drawOK pf ops rops = true) {Q : Exit → Act → World → Prop} :
    ∀ (fuel : Nat) (listed : Array Bool) (st : St) (a : Act) (w : World) (ρ : Nat → RB), listed.size = ops.size → (∀ (k : Nat) (o : Oper), ops[k]? = some o → listed.getD k false = true → ∀ e ∈ o.after, Region.binds .any e = true → listed.getD e.on false = true) → (rem ops.size listed).length ≤ fuel → SRel w0 ρ nt n0 st a w → runI P T fl rops (rem ops.size listed) st = some st' →
    (∀ a' w' ρ', SRel w0 ρ' nt n0 st' a' w' → Ext st.heap.length ρ w.heap st'.heap.length ρ' w'.heap → Q .normal a' w') → wpAnyIn (FW r0) n P .any ops Q fuel listed a w := by
  have hdd : ∀ i, i < ops.size → (∀ e ∈ (ops.getD i default).after, Region.binds .any e = true → e.on < i) ∧ ∀ j, j < i → ((masks ops).getD i 0).testBit j = true ∨ ∃ x r, rops[j]? = some x ∧ rops[i]? = some r ∧ indep pf x r = true := by
    intro i hi
    unfold drawOK at hd
    rw [List.all_eq_true] at hd
    have := hd i (by simpa using hi)
    simp only [Bool.and_eq_true, List.all_eq_true, Bool.or_eq_true, Array.all_eq_true_iff_forall_mem, Bool.not_eq_true', decide_eq_true_eq, List.mem_range] at this
    refine ⟨fun e he hb => (this.1 e he).resolve_left (by simp [hb]), fun j hj => ?_⟩
    rcases this.2 j hj with h | h
    · exact .inl h
    · split at h
      · rename_i x r hx hr
        exact .inr ⟨x, r, hx, hr, h⟩
      · simp at h
  have hready : ∀ listed : Array Bool, listed.size = ops.size → Region.ready .any ops listed = [] → rem ops.size listed = [] := by
    intro listed hsz hnil
    cases hrem : rem ops.size listed with
    | nil => rfl
    | cons i rest =>
      exfalso
      have hmem : ∀ k, k ∈ rem ops.size listed ↔ k < ops.size ∧ listed.getD k true = false := fun k => by simp [rem]
      have hi := (hmem i).1 (by rw [hrem]; simp)
      -- the first one is ready
      have hfirst : ∀ k, k < i → k < ops.size → listed.getD k true = true := by
        intro k hk hks
        cases hb : listed.getD k true with
        | true => rfl
        | false =>
          exfalso
          have hk2 := (hmem k).2 ⟨hks, hb⟩
          rw [hrem] at hk2
          have hsorted : (rem ops.size listed).Pairwise (· < ·) := List.Pairwise.filter _ List.pairwise_lt_range
          rw [hrem, List.pairwise_cons] at hsorted
          rcases List.mem_cons.1 hk2 with h | h
          · omega
          · have := hsorted.1 k h; omega
      have : i ∈ Region.ready .any ops listed := by
        rw [mem_ready]
        refine ⟨hi.2, ops[i]'hi.1, Array.getElem?_eq_getElem hi.1, fun e he hb => ?_⟩
        have hlt := (hdd i hi.1).1 e (by simpa [Array.getD, hi.1] using he) hb
        have h1 := hfirst e.on hlt (by omega)
        have h2 : e.on < listed.size := by omega
        simpa [Array.getD, h2] using h1
      rw [hnil] at this
      simp at this
  intro fuel
  induction fuel with
  | zero =>
    intro listed st a w ρ hsz hcl hlen S h hq
    have hnil : rem ops.size listed = [] := List.eq_nil_of_length_eq_zero (by omega)
    rw [hnil] at h
    simp only [runI, Option.some.injEq] at h
    subst h
    refine ⟨?_, hq a w ρ S (.refl _ _ _)⟩
    cases hrd : Region.ready .any ops listed with
    | nil => rfl
    | cons i rest =>
      exfalso
      have hi : i ∈ Region.ready .any ops listed := by rw [hrd]; simp
      rw [mem_ready] at hi
      obtain ⟨h1, o, ho, _⟩ := hi
      have : i ∈ rem ops.size listed := by simp only [rem, List.mem_filter, List.mem_range, Bool.not_eq_true']; exact ⟨(Array.getElem?_eq_some_iff.1 ho).1, h1⟩
      rw [hnil] at this
      simp at this
  | succ fuel ih =>
    intro listed st a w ρ hsz hcl hlen S h hq
    refine ⟨fun hnil => ?_, fun i hi => ?_⟩
    · rw [hready listed hsz hnil] at h
      simp only [runI, Option.some.injEq] at h
      subst h
      exact hq a w ρ S (.refl _ _ _)
    · rw [mem_ready] at hi
      obtain ⟨hl, o, ho, hdeps⟩ := hi
      have his := (Array.getElem?_eq_some_iff.1 ho).1
      obtain ⟨js, post, e1, e2, e3⟩ := rem_split his hl (by omega)
      obtain ⟨r, hr⟩ : ∃ r, rops[i]? = some r := ⟨_, List.getElem?_eq_getElem (by rw [hR.len]; exact his)⟩
      rw [e1] at h
      obtain ⟨s, hs, hrest⟩ := ahead hp hr js post st st' (fun j hj => by
        obtain ⟨q1, q2⟩ := e2 j hj
        rcases (hdd i his).2 j q1 with hdir | ⟨x, r', hx, hr', hind⟩
        · exfalso
          have := mask_listed (fun i o ho e he hb => (hdd i (Array.getElem?_eq_some_iff.1 ho).1).1 e (by
            have h1 := (Array.getElem?_eq_some_iff.1 ho)
            obtain ⟨h1, rfl⟩ := h1
            simpa [Array.getD, h1] using he) hb) hcl j (i + 1) i o (by omega) ho hdeps hdir
          have h2 : j < listed.size := by omega
          have q3 : listed[j] = true := by simpa [Array.getD, h2] using this
          have q4 : listed[j] = false := by simpa [Array.getD, h2] using q2
          rw [q3] at q4
          simp at q4
        · rw [hr] at hr'
          obtain rfl := Option.some.inj hr'
          exact ⟨x, hx, hind⟩) h
      refine rop_wp hT hR hr S hs fun a' w' ρ' S' X => ?_
      refine ih _ s a' w' ρ' (by simpa using hsz) (fun k ok hk hl2 e he hb => ?_) ?_ S' (by rw [e3]; exact hrest) fun a2 w2 ρ2 S2 X2 => hq a2 w2 ρ2 S2 (X.trans X2)
      · by_cases hki : k = i
        · subst hki
          rw [ho] at hk
          obtain rfl := Option.some.inj hk
          exact getD_set_true (hdeps e he hb)
        · rw [getD_set_ne false (fun h => hki h.symm)] at hl2
          exact getD_set_true (hcl k ok hk hl2 e he hb)
      · rw [e3]
        rw [e1] at hlen
        simp at hlen ⊢
        omega

theorem wp_region_draw_lev (hT : Valid P w0 T) {pf : FuncId → Bool} (hp : PureOK T pf) (hmix : P.follows .mixedOrders = true) (hR : RegRel P nt ops rops) (hd : drawOK pf ops rops = true) {id : Nat} {Q : Exit → Act → World → Prop} (S : SRel w0 ρ nt n0 st a w) (h : runOps P T fl rops st = some st')
    (hq : ∀ a' w' ρ', SRel w0 ρ' nt n0 st' a' w' → Ext st.heap.length ρ w.heap st'.heap.length ρ' w'.heap → Q .normal a' w') : (Code.region id ops true).wpIn (FW r0) n P Q a w := by
  refine wpIn_region_any hmix ?_
  have hrem : rem ops.size (Array.replicate ops.size false) = List.range ops.size := by
    unfold rem
    rw [List.filter_eq_self]
    intro k hk
    simp only [List.mem_range] at hk
    simp [Array.getD, hk]
  have S2 : SRel w0 ρ nt n0 st a { w with drawn := w.drawn + 1 } := ⟨S.rel.world rfl rfl rfl rfl, S.env, S.size, S.defers, S.base⟩
  refine wpAny_lev (fl := fl) hT hp hR hd ops.size _ st a _ ρ (by simp) (fun k o hk hl => by simp [Array.getD] at hl) (by rw [hrem]; simp) S2 ?_ fun a' w' ρ' S' X => hq a' w' ρ' S' X
  rw [hrem, List.range_eq_range']
  rw [runOps_runI rops rops 0 st (fun j => by simp), hR.len] at h
  exact h

/-! ### Pairs that only the run shows to be apart: a load and a store -/
def addrT (r : ROp) : Option Nat := match r.lo.addr? with
  | some (.tmp t) => some t
  | _ => none

/-- A load and a store, neither guarded, each address in a temporary that it doesn't turn itself. -/
def dynOK (x y : ROp) : Bool :=
  regsOK x y && x.guard.isNone && y.guard.isNone && ((isRd x.lo && isSt y.lo) || (isSt x.lo && isRd y.lo)) &&
  (addrT x).isSome && (addrT y).isSome && x.dst != addrT x && y.dst != addrT y

theorem keep {P : Program} {T : Tab} {fl : Nat} {rops : List ROp} {t : Nat} : ∀ (σ : List Nat) (st st' : St), runI P T fl rops σ st = some st' → (∀ k ∈ σ, ∀ o, rops[k]? = some o → o.dst ≠ some t) → st'.env t = st.env t
  | [], st, st', h, _ => by simp only [runI, Option.some.injEq] at h; subst h; rfl
  | k :: σ, st, st', h, hd => by
    simp only [runI] at h
    split at h
    · simp at h
    · rename_i o ho
      split at h
      · rename_i s hs
        rw [keep σ s st' h fun j hj => hd j (List.mem_cons_of_mem _ hj)]
        have h1 := hd k List.mem_cons_self o ho
        rw [step_eff] at hs
        simp only [Option.map_eq_some_iff] at hs
        obtain ⟨p, _, rfl⟩ := hs
        cases ho2 : o.dst with
        | none => rfl
        | some d =>
          rw [ho2] at h1
          have : ¬ t = d := fun e => h1 (by rw [e])
          simp [Lev.put, upd, this]
      · simp at h

theorem rd_other {P : Program} {T : Tab} {fl : Nat} {env : Nat → Value} {H K : Heap} {lo : LO} {b : Nat} {bx : Box} (hc : isRd lo = true) {t : Nat} (ht : lo.addr? = some (.tmp t)) (hK : K = H.set b bx) (hb : ∀ p, env t = .pointer (some p) → p.block ≠ b) {v : Value} {H' : Heap} :
    lo.step P T fl env H = some (v, H') ↔ H' = H ∧ lo.step P T fl env K = some (v, K) := by
  subst hK
  have e1 : ∀ p, env t = .pointer (some p) → rd1 (H.set b bx) p = rd1 H p := fun p hp => by
    unfold rd1
    rw [List.getElem?_set_ne (Ne.symm (hb p hp))]
  have e2 : ∀ n p, env t = .pointer (some p) → rdN (H.set b bx) p n = rdN H p n := fun n p hp => by
    unfold rdN
    rw [List.getElem?_set_ne (Ne.symm (hb p hp))]
  cases lo <;> simp only [isRd] at hc <;> try (simp at hc; done)
  case load1 x =>
    simp only [LO.addr?, Option.some.injEq] at ht
    subst ht
    simp only [LO.step, evO]
    cases hz : env t with
    | pointer q =>
      cases q with
      | none => simp
      | some p =>
        simp only [e1 p hz, Option.map_eq_some_iff, Prod.mk.injEq]
        constructor
        · rintro ⟨u, h1, rfl, rfl⟩; exact ⟨rfl, by simpa using h1⟩
        · rintro ⟨rfl, h1⟩; simpa using h1
    | _ => simp
  case loadN n x =>
    simp only [LO.addr?, Option.some.injEq] at ht
    subst ht
    simp only [LO.step, evO]
    cases hz : env t with
    | pointer q =>
      cases q with
      | none => simp
      | some p =>
        simp only [e2 n p hz, Option.map_eq_some_iff, Prod.mk.injEq]
        constructor
        · rintro ⟨u, h1, rfl, rfl⟩; exact ⟨rfl, by simpa using h1⟩
        · rintro ⟨rfl, h1⟩; simpa using h1
    | _ => simp

theorem st_set {P : Program} {T : Tab} {fl : Nat} {env : Nat → Value} {H K : Heap} {lo : LO} (hc : isSt lo = true) {t : Nat} (ht : lo.addr? = some (.tmp t)) {u : Value} (hs : lo.step P T fl env H = some (u, K)) : ∃ p bx, env t = .pointer (some p) ∧ K = H.set p.block bx := by
  cases lo <;> simp only [isSt] at hc <;> try (simp at hc; done)
  case store n a x =>
    simp only [LO.addr?, Option.some.injEq] at ht
    subst ht
    simp only [LO.step] at hs
    split at hs
    · rename_i p hp
      split at hs
      · simp only [Option.map_eq_some_iff, Prod.mk.injEq] at hs
        obtain ⟨Z, hZ, _, rfl⟩ := hs
        obtain ⟨b, hb, _, _, _, _, _, rfl⟩ := wrN_some hZ
        exact ⟨p, _, hp, rfl⟩
      · simp at hs
    · simp at hs

theorem swapD {P : Program} {T : Tab} {fl : Nat} {x y : ROp} (hi : dynOK x y = true) {st s1 s2 : St} (h1 : x.step P T fl st = some s1) (h2 : y.step P T fl s1 = some s2)
    (hap : ∀ a b p q, addrT x = some a → addrT y = some b → st.env a = .pointer (some p) → st.env b = .pointer (some q) → p.block ≠ q.block) :
    ∃ s, y.step P T fl st = some s ∧ x.step P T fl s = some s2 := by
  unfold dynOK at hi
  simp only [Bool.and_eq_true, Bool.or_eq_true, Option.isNone_iff_eq_none, Option.isSome_iff_exists] at hi
  obtain ⟨⟨⟨⟨⟨⟨⟨hreg, gx⟩, gy⟩, hk⟩, ⟨ta, hta⟩⟩, ⟨tb, htb⟩⟩, _⟩, _⟩ := hi
  unfold regsOK at hreg
  simp only [Bool.and_eq_true, Bool.not_eq_true'] at hreg
  obtain ⟨⟨⟨sx, sy⟩, hd⟩, he⟩ := hreg
  have d1 : ∀ t, x.dst = some t → t ∉ y.reads := fun t ht => by
    rw [ht] at hd
    simp at hd
    exact hd.1
  have d2 : ∀ t, x.dst = some t → y.dst ≠ some t := fun t ht => by
    rw [ht] at hd
    simp at hd
    exact hd.2
  have d3 : ∀ t, y.dst = some t → t ∉ x.reads := fun t ht => by
    rw [ht] at he
    simpa using he
  have ax : x.lo.addr? = some (.tmp ta) := by
    unfold addrT at hta
    split at hta
    · rename_i t ht; rw [ht]; simpa using hta
    · simp at hta
  have ay : y.lo.addr? = some (.tmp tb) := by
    unfold addrT at htb
    split at htb
    · rename_i t ht; rw [ht]; simpa using htb
    · simp at htb
  rw [step_eff] at h1 h2
  simp only [Option.map_eq_some_iff, Prod.exists] at h1 h2
  obtain ⟨v, K, hv, rfl⟩ := h1
  obtain ⟨u, L, hu, rfl⟩ := h2
  simp only at hu
  rw [eff_put sy d1] at hu
  have ex : ∀ env H, x.eff P T fl env H = x.lo.step P T fl env H := fun env H => by simp [ROp.eff, gx, guardOn]
  have ey : ∀ env H, y.eff P T fl env H = y.lo.step P T fl env H := fun env H => by simp [ROp.eff, gy, guardOn]
  rw [ex] at hv
  rw [ey] at hu
  rcases hk with ⟨k1, k2⟩ | ⟨k1, k2⟩
  · obtain ⟨rfl, _⟩ := rd_ext k1 hv
    obtain ⟨q, bx, hq, hL⟩ := st_set k2 ay hu
    refine ⟨⟨put st.env y.dst u, L⟩, by rw [step_eff, ey, hu]; rfl, ?_⟩
    rw [step_eff]
    simp only
    rw [eff_put sx d3, ex, ((rd_other k1 ax hL fun p hp => hap _ _ p q hta htb hp hq).1 hv).2]
    simp only [Option.map_some, put_comm st.env v u d2]
  · obtain ⟨p, bx, hp, hK⟩ := st_set k1 ax hv
    obtain ⟨rfl, _⟩ := rd_ext k2 hu
    have hu' := (rd_other (H := st.heap) (H' := st.heap) k2 ay hK fun q hq => Ne.symm (hap _ _ p q hta htb hp hq)).2 ⟨rfl, hu⟩
    refine ⟨⟨put st.env y.dst u, st.heap⟩, by rw [step_eff, ey, hu']; rfl, ?_⟩
    rw [step_eff]
    simp only
    rw [eff_put sx d3, ex, hv]
    simp only [Option.map_some, put_comm st.env v u d2]

/-- What may go ahead goes ahead; some pairs are apart by what the run's end shows. -/
theorem aheadD {P : Program} {T : Tab} {fl : Nat} {pf : FuncId → Bool} (hp : PureOK T pf) {rops : List ROp} {i : Nat} {r : ROp} (hr : rops[i]? = some r) (post : List Nat) (s' : St) : ∀ (js : List Nat) (st : St), (js ++ post).Pairwise (· < ·) →
    (∀ j ∈ js, ∃ x, rops[j]? = some x ∧ (indep pf x r = true ∨ (dynOK x r = true ∧ apartAt rops s'.env (j, i) = true ∧ (∀ k o, rops[k]? = some o → o.dst = addrT x → k < j) ∧ ∀ k ∈ js ++ post, ∀ o, rops[k]? = some o → o.dst ≠ addrT r))) →
    runI P T fl rops (js ++ i :: post) st = some s' → ∃ s, r.step P T fl st = some s ∧ runI P T fl rops (js ++ post) s = some s'
  | [], st, _, _, h => by
    simp only [List.nil_append, runI, hr] at h
    split at h
    · rename_i s hs
      exact ⟨s, hs, h⟩
    · simp at h
  | j :: js, st, hso, hj, h => by
    obtain ⟨x, hx, hi⟩ := hj j (by simp)
    rw [List.cons_append, List.pairwise_cons] at hso
    simp only [List.cons_append, runI, hx] at h
    split at h
    · rename_i s1 h1
      obtain ⟨s, hs, hrest⟩ := aheadD hp hr post s' js s1 hso.2 (fun k hk => by
        obtain ⟨z, hz, hz2⟩ := hj k (by simp [hk])
        refine ⟨z, hz, hz2.imp id fun ⟨q1, q2, q3, q4⟩ => ⟨q1, q2, q3, fun k' hk' => q4 k' (by simp only [List.cons_append]; exact List.mem_cons_of_mem _ hk')⟩⟩) h
      have hsw : ∃ t, r.step P T fl st = some t ∧ x.step P T fl t = some s := by
        rcases hi with hi | ⟨q1, q2, q3, q4⟩
        · exact swap hp hi h1 hs
        · refine swapD q1 h1 hs fun a b p q ha hb hpa hqb => ?_
          have qq := q1
          unfold dynOK at qq
          simp only [Bool.and_eq_true, bne_iff_ne] at qq
          obtain ⟨⟨⟨⟨⟨⟨⟨hreg, _⟩, _⟩, _⟩, _⟩, _⟩, nx⟩, nr⟩ := qq
          unfold regsOK at hreg
          simp only [Bool.and_eq_true, Bool.not_eq_true'] at hreg
          obtain ⟨⟨_, hd⟩, he⟩ := hreg
          have rdx : a ∈ x.reads := by
            unfold addrT at ha
            split at ha
            · rename_i t ht
              obtain rfl := Option.some.inj ha
              unfold ROp.reads tmpsOf
              refine List.mem_append_left _ (List.mem_filterMap.2 ⟨.tmp t, ?_, rfl⟩)
              cases hlo : x.lo <;> rw [hlo] at ht <;> simp [LO.addr?] at ht <;> simp [LO.opnds, ht]
            · simp at ha
          have rdr : b ∈ r.reads := by
            unfold addrT at hb
            split at hb
            · rename_i t ht
              obtain rfl := Option.some.inj hb
              unfold ROp.reads tmpsOf
              refine List.mem_append_left _ (List.mem_filterMap.2 ⟨.tmp t, ?_, rfl⟩)
              cases hlo : r.lo <;> rw [hlo] at ht <;> simp [LO.addr?] at ht <;> simp [LO.opnds, ht]
            · simp at hb
          have putne : ∀ (o : ROp) (s t : St) (c : Nat), o.step P T fl s = some t → o.dst ≠ some c → t.env c = s.env c := fun o s t c ho hc => by
            rw [step_eff] at ho
            simp only [Option.map_eq_some_iff] at ho
            obtain ⟨z, _, rfl⟩ := ho
            cases hd2 : o.dst with
            | none => rfl
            | some d =>
              rw [hd2] at hc
              have : ¬ c = d := fun e => hc (by rw [e])
              simp [Lev.put, upd, this]
          have fa : s'.env a = st.env a := by
            rw [keep _ _ _ hrest fun k hk o ho hd3 => by have := q3 k o ho (by rw [hd3, ha]); have := hso.1 k hk; omega]
            rw [putne r s1 s a hs fun e => by rw [e] at he; simp only at he; simp [rdx] at he, putne x st s1 a h1 fun e => nx (by rw [e, ha])]
          have fb : s'.env b = st.env b := by
            rw [keep _ _ _ hrest fun k hk o ho hd3 => q4 k (by simp only [List.cons_append]; exact List.mem_cons_of_mem _ hk) o ho (by rw [hd3, hb])]
            rw [putne r s1 s b hs fun e => nr (by rw [e, hb]), putne x st s1 b h1 fun e => by rw [e] at hd; simp [rdr] at hd]
          have ax : x.lo.addr? = some (.tmp a) := by
            unfold addrT at ha
            split at ha
            · rename_i t ht; rw [ht]; simpa using ha
            · simp at ha
          have ay : r.lo.addr? = some (.tmp b) := by
            unfold addrT at hb
            split at hb
            · rename_i t ht; rw [ht]; simpa using hb
            · simp at hb
          simp only [apartAt, hx, hr, ax, ay, evO, fa, fb, hpa, hqb, bne_iff_ne] at q2
          exact q2
      obtain ⟨t, ht1, ht2⟩ := hsw
      refine ⟨t, ht1, ?_⟩
      simp only [List.cons_append, runI, hx, ht2]
      exact hrest
    · simp at h

def drawPrs (pf : FuncId → Bool) (ops : Array Oper) (rops : List ROp) : List (Nat × Nat) :=
  (List.range ops.size).flatMap fun i => ((List.range i).filter fun j => !((masks ops).getD i 0).testBit j && (match rops[j]?, rops[i]? with
    | some x, some r => !indep pf x r
    | _, _ => true)).map fun j => (j, i)

/-- As drawOK, but for some pairs. -/
def drawD (pf : FuncId → Bool) (ops : Array Oper) (rops : List ROp) (prs : List (Nat × Nat)) : Bool :=
  (List.range ops.size).all fun i =>
    ((ops.getD i default).after.all fun e => !Region.binds .any e || decide (e.on < i)) &&
    ((List.range i).all fun j => ((masks ops).getD i 0).testBit j || (match rops[j]?, rops[i]? with
      | some x, some r => indep pf x r || (prs.contains (j, i) && dynOK x r && ((List.range ops.size).all fun k => match rops[k]? with
          | some o => (o.dst != addrT x || decide (k < j)) && (o.dst != addrT r || ((masks ops).getD i 0).testBit k)
          | none => true))
      | _, _ => false))

theorem wpAny_levD (hT : Valid P w0 T) {pf : FuncId → Bool} (hp : PureOK T pf) (hR : RegRel P nt ops rops) {prs : List (Nat × Nat)} (hd : drawD pf ops rops prs = true) (hchk : prs.all (apartAt rops st'.env) = true) {Q : Exit → Act → World → Prop} :
    ∀ (fuel : Nat) (listed : Array Bool) (st : St) (a : Act) (w : World) (ρ : Nat → RB), listed.size = ops.size → (∀ (k : Nat) (o : Oper), ops[k]? = some o → listed.getD k false = true → ∀ e ∈ o.after, Region.binds .any e = true → listed.getD e.on false = true) → (rem ops.size listed).length ≤ fuel → SRel w0 ρ nt n0 st a w → runI P T fl rops (rem ops.size listed) st = some st' →
    (∀ a' w' ρ', SRel w0 ρ' nt n0 st' a' w' → Ext st.heap.length ρ w.heap st'.heap.length ρ' w'.heap → Q .normal a' w') → wpAnyIn (FW r0) n P .any ops Q fuel listed a w := by
  have hdd : ∀ i, i < ops.size → (∀ e ∈ (ops.getD i default).after, Region.binds .any e = true → e.on < i) ∧ ∀ j, j < i → ((masks ops).getD i 0).testBit j = true ∨ ∃ x r, rops[j]? = some x ∧ rops[i]? = some r ∧ (indep pf x r = true ∨ (dynOK x r = true ∧ apartAt rops st'.env (j, i) = true ∧ (∀ k o, rops[k]? = some o → o.dst = addrT x → k < j) ∧ ∀ k o, rops[k]? = some o → o.dst = addrT r → ((masks ops).getD i 0).testBit k = true)) := by
    intro i hi
    unfold drawD at hd
    rw [List.all_eq_true] at hd
    have := hd i (by simpa using hi)
    rw [Bool.and_eq_true] at this
    refine ⟨fun e he hb => ?_, fun j hj => ?_⟩
    · have h1 := this.1
      simp only [Array.all_eq_true_iff_forall_mem, Bool.or_eq_true, Bool.not_eq_true', decide_eq_true_eq] at h1
      exact (h1 e he).resolve_left (by simp [hb])
    · have h2 := this.2
      rw [List.all_eq_true] at h2
      have h3 := h2 j (by simpa using hj)
      rw [Bool.or_eq_true] at h3
      rcases h3 with h | h
      · exact .inl h
      · split at h
        · rename_i x r hx hr
          refine .inr ⟨x, r, hx, hr, ?_⟩
          rw [Bool.or_eq_true] at h
          rcases h with h | h
          · exact .inl h
          · rw [Bool.and_eq_true, Bool.and_eq_true, List.all_eq_true] at h
            obtain ⟨⟨h4, h5⟩, h6⟩ := h
            have key : ∀ k o, rops[k]? = some o → (o.dst = addrT x → k < j) ∧ (o.dst = addrT r → ((masks ops).getD i 0).testBit k = true) := fun k o ho => by
              have hk : k < ops.size := by have := (List.getElem?_eq_some_iff.1 ho).1; have := hR.len; omega
              have h7 := h6 k (by simpa using hk)
              rw [ho] at h7
              simp only [Bool.and_eq_true, Bool.or_eq_true, bne_iff_ne, decide_eq_true_eq] at h7
              exact ⟨fun e => h7.1.resolve_left (by simp [e]), fun e => h7.2.resolve_left (by simp [e])⟩
            exact .inr ⟨h5, List.all_eq_true.1 hchk _ (by simpa using h4), fun k o ho => (key k o ho).1, fun k o ho => (key k o ho).2⟩
        · simp at h
  have hready : ∀ listed : Array Bool, listed.size = ops.size → Region.ready .any ops listed = [] → rem ops.size listed = [] := by
    intro listed hsz hnil
    cases hrem : rem ops.size listed with
    | nil => rfl
    | cons i rest =>
      exfalso
      have hmem : ∀ k, k ∈ rem ops.size listed ↔ k < ops.size ∧ listed.getD k true = false := fun k => by simp [rem]
      have hi := (hmem i).1 (by rw [hrem]; simp)
      -- the first one is ready
      have hfirst : ∀ k, k < i → k < ops.size → listed.getD k true = true := by
        intro k hk hks
        cases hb : listed.getD k true with
        | true => rfl
        | false =>
          exfalso
          have hk2 := (hmem k).2 ⟨hks, hb⟩
          rw [hrem] at hk2
          have hsorted : (rem ops.size listed).Pairwise (· < ·) := List.Pairwise.filter _ List.pairwise_lt_range
          rw [hrem, List.pairwise_cons] at hsorted
          rcases List.mem_cons.1 hk2 with h | h
          · omega
          · have := hsorted.1 k h; omega
      have : i ∈ Region.ready .any ops listed := by
        rw [mem_ready]
        refine ⟨hi.2, ops[i]'hi.1, Array.getElem?_eq_getElem hi.1, fun e he hb => ?_⟩
        have hlt := (hdd i hi.1).1 e (by simpa [Array.getD, hi.1] using he) hb
        have h1 := hfirst e.on hlt (by omega)
        have h2 : e.on < listed.size := by omega
        simpa [Array.getD, h2] using h1
      rw [hnil] at this
      simp at this
  intro fuel
  induction fuel with
  | zero =>
    intro listed st a w ρ hsz hcl hlen S h hq
    have hnil : rem ops.size listed = [] := List.eq_nil_of_length_eq_zero (by omega)
    rw [hnil] at h
    simp only [runI, Option.some.injEq] at h
    subst h
    refine ⟨?_, hq a w ρ S (.refl _ _ _)⟩
    cases hrd : Region.ready .any ops listed with
    | nil => rfl
    | cons i rest =>
      exfalso
      have hi : i ∈ Region.ready .any ops listed := by rw [hrd]; simp
      rw [mem_ready] at hi
      obtain ⟨h1, o, ho, _⟩ := hi
      have : i ∈ rem ops.size listed := by simp only [rem, List.mem_filter, List.mem_range, Bool.not_eq_true']; exact ⟨(Array.getElem?_eq_some_iff.1 ho).1, h1⟩
      rw [hnil] at this
      simp at this
  | succ fuel ih =>
    intro listed st a w ρ hsz hcl hlen S h hq
    refine ⟨fun hnil => ?_, fun i hi => ?_⟩
    · rw [hready listed hsz hnil] at h
      simp only [runI, Option.some.injEq] at h
      subst h
      exact hq a w ρ S (.refl _ _ _)
    · rw [mem_ready] at hi
      obtain ⟨hl, o, ho, hdeps⟩ := hi
      have his := (Array.getElem?_eq_some_iff.1 ho).1
      obtain ⟨js, post, e1, e2, e3⟩ := rem_split his hl (by omega)
      obtain ⟨r, hr⟩ : ∃ r, rops[i]? = some r := ⟨_, List.getElem?_eq_getElem (by rw [hR.len]; exact his)⟩
      rw [e1] at h
      have listedMask : ∀ k, ((masks ops).getD i 0).testBit k = true → listed.getD k false = true := fun k hk =>
        mask_listed (fun i o ho e he hb => (hdd i (Array.getElem?_eq_some_iff.1 ho).1).1 e (by
            have h1 := (Array.getElem?_eq_some_iff.1 ho)
            obtain ⟨h1, rfl⟩ := h1
            simpa [Array.getD, h1] using he) hb) hcl k (i + 1) i o (by omega) ho hdeps hk
      have hmem : ∀ k, k ∈ rem ops.size listed ↔ k < ops.size ∧ listed.getD k true = false := fun k => by simp [rem]
      have notListed : ∀ k, k ∈ rem ops.size listed → listed.getD k false = true → False := fun k hk hl => by
        have h1 := (hmem k).1 hk
        have h2 : k < listed.size := by omega
        have q3 : listed[k] = true := by simpa [Array.getD, h2] using hl
        have q4 : listed[k] = false := by simpa [Array.getD, h2] using h1.2
        rw [q3] at q4
        simp at q4
      have hsorted : (rem ops.size listed).Pairwise (· < ·) := List.Pairwise.filter _ List.pairwise_lt_range
      rw [e1] at hsorted
      have hsort2 : (js ++ post).Pairwise (· < ·) := hsorted.sublist (List.Sublist.append_left (List.sublist_cons_self _ _) _)
      obtain ⟨s, hs, hrest⟩ := aheadD hp hr post st' js st hsort2 (fun j hj => by
        obtain ⟨q1, q2⟩ := e2 j hj
        have hjm : j ∈ rem ops.size listed := by rw [e1]; exact List.mem_append_left _ hj
        rcases (hdd i his).2 j q1 with hdir | ⟨x, r', hx, hr', hind⟩
        · exact (notListed j hjm (listedMask j hdir)).elim
        · rw [hr] at hr'
          obtain rfl := Option.some.inj hr'
          refine ⟨x, hx, hind.imp id fun ⟨w1, w2, w3, w4⟩ => ⟨w1, w2, w3, fun k hk o ho hdk => notListed k ?_ (listedMask k (w4 k o ho hdk))⟩⟩
          rw [e1]
          rcases List.mem_append.1 hk with hk | hk
          · exact List.mem_append_left _ hk
          · exact List.mem_append_right _ (List.mem_cons_of_mem _ hk)) h
      refine rop_wp hT hR hr S hs fun a' w' ρ' S' X => ?_
      refine ih _ s a' w' ρ' (by simpa using hsz) (fun k ok hk hl2 e he hb => ?_) ?_ S' (by rw [e3]; exact hrest) fun a2 w2 ρ2 S2 X2 => hq a2 w2 ρ2 S2 (X.trans X2)
      · by_cases hki : k = i
        · subst hki
          rw [ho] at hk
          obtain rfl := Option.some.inj hk
          exact getD_set_true (hdeps e he hb)
        · rw [getD_set_ne false (fun h => hki h.symm)] at hl2
          exact getD_set_true (hcl k ok hk hl2 e he hb)
      · rw [e3]
        rw [e1] at hlen
        simp at hlen ⊢
        omega

theorem wp_region_draw_levD (hT : Valid P w0 T) {pf : FuncId → Bool} (hp : PureOK T pf) (hmix : P.follows .mixedOrders = true) (hR : RegRel P nt ops rops) {prs : List (Nat × Nat)} (hd : drawD pf ops rops prs = true) {id : Nat} {Q : Exit → Act → World → Prop} (S : SRel w0 ρ nt n0 st a w) (h : runOps P T fl rops st = some st') (hchk : prs.all (apartAt rops st'.env) = true)
    (hq : ∀ a' w' ρ', SRel w0 ρ' nt n0 st' a' w' → Ext st.heap.length ρ w.heap st'.heap.length ρ' w'.heap → Q .normal a' w') : (Code.region id ops true).wpIn (FW r0) n P Q a w := by
  refine wpIn_region_any hmix ?_
  have hrem : rem ops.size (Array.replicate ops.size false) = List.range ops.size := by
    unfold rem
    rw [List.filter_eq_self]
    intro k hk
    simp only [List.mem_range] at hk
    simp [Array.getD, hk]
  have S2 : SRel w0 ρ nt n0 st a { w with drawn := w.drawn + 1 } := ⟨S.rel.world rfl rfl rfl rfl, S.env, S.size, S.defers, S.base⟩
  refine wpAny_levD (fl := fl) hT hp hR hd hchk ops.size _ st a _ ρ (by simp) (fun k o hk hl => by simp [Array.getD] at hl) (by rw [hrem]; simp) S2 ?_ fun a' w' ρ' S' X => hq a' w' ρ' S' X
  rw [hrem, List.range_eq_range']
  rw [runOps_runI rops rops 0 st (fun j => by simp), hR.len] at h
  exact h
end
end Go.Lev


set_option linter.unusedVariables false
set_option linter.unusedSimpArgs false
namespace Go.Lev
open Go Go.RowKit

/-- How a memory goes on, block l left out of the account. -/
structure ExtL (l N : Nat) (ρ : Nat → RB) (h : Array Obj) (N' : Nat) (ρ' : Nat → RB) (h' : Array Obj) : Prop where
  len : N ≤ N'
  gen : ∀ id, id < N → (ρ id).gen ≤ (ρ' id).gen ∧ ((ρ' id).gen = (ρ id).gen → ρ' id = ρ id)
  blk : ∀ id, id < N' → (id < N ∧ (ρ' id).blk = (ρ id).blk) ∨ h.size ≤ (ρ' id).blk
  size : h.size ≤ h'.size
  frame : ∀ k, k < h.size → k ≠ l → (∀ id, id < N → (ρ id).blk ≠ k) → h'[k]? = h[k]?

theorem Ext.toL {N N' : Nat} {ρ ρ' : Nat → RB} {h h' : Array Obj} (x : Ext N ρ h N' ρ' h') (l : Nat) : ExtL l N ρ h N' ρ' h' :=
  ⟨x.len, x.gen, x.blk, x.size, fun k hk _ hf => x.frame k hk hf⟩

theorem ExtL.toExt {l N N' : Nat} {ρ ρ' : Nat → RB} {h h' : Array Obj} (x : ExtL l N ρ h N' ρ' h') (hl : h.size ≤ l) : Ext N ρ h N' ρ' h' :=
  ⟨x.len, x.gen, x.blk, x.size, fun k hk hf => x.frame k hk (by omega) hf⟩

theorem Ext.thenL {l N N' N'' : Nat} {ρ ρ' ρ'' : Nat → RB} {h h' h'' : Array Obj} (x : Ext N ρ h N' ρ' h') (y : ExtL l N' ρ' h' N'' ρ'' h'') (hl : h.size ≤ l) : Ext N ρ h N'' ρ'' h'' := by
  refine ⟨Nat.le_trans x.len y.len, fun id hid => ?_, fun id hid => ?_, Nat.le_trans x.size y.size, fun k hk hf => ?_⟩
  · have a := x.gen id hid
    have b := y.gen id (Nat.lt_of_lt_of_le hid x.len)
    refine ⟨Nat.le_trans a.1 b.1, fun e => ?_⟩
    have e1 : (ρ' id).gen = (ρ id).gen := by omega
    have e2 : (ρ'' id).gen = (ρ' id).gen := by omega
    rw [b.2 e2, a.2 e1]
  · rcases y.blk id hid with ⟨h1, h2⟩ | h1
    · rcases x.blk id h1 with ⟨h3, h4⟩ | h3
      · exact .inl ⟨h3, by rw [h2, h4]⟩
      · exact .inr (by rw [h2]; exact h3)
    · exact .inr (Nat.le_trans x.size h1)
  · rw [y.frame k (Nat.lt_of_lt_of_le hk x.size) (by omega) (x.img hk hf), x.frame k hk hf]

theorem ExtL.img {l N N' : Nat} {ρ ρ' : Nat → RB} {h h' : Array Obj} (x : ExtL l N ρ h N' ρ' h') {k : Nat} (hk : k < h.size) (hf : ∀ id, id < N → (ρ id).blk ≠ k) :
    ∀ id, id < N' → (ρ' id).blk ≠ k := by
  intro id hid
  rcases x.blk id hid with ⟨h1, h2⟩ | h1
  · rw [h2]; exact hf id h1
  · omega

theorem ExtL.trans {l N N' N'' : Nat} {ρ ρ' ρ'' : Nat → RB} {h h' h'' : Array Obj} (x : ExtL l N ρ h N' ρ' h') (y : ExtL l N' ρ' h' N'' ρ'' h'') : ExtL l N ρ h N'' ρ'' h'' := by
  refine ⟨Nat.le_trans x.len y.len, fun id hid => ?_, fun id hid => ?_, Nat.le_trans x.size y.size, fun k hk hkl hf => ?_⟩
  · have a := x.gen id hid
    have b := y.gen id (Nat.lt_of_lt_of_le hid x.len)
    refine ⟨Nat.le_trans a.1 b.1, fun e => ?_⟩
    have e1 : (ρ' id).gen = (ρ id).gen := by omega
    have e2 : (ρ'' id).gen = (ρ' id).gen := by omega
    rw [b.2 e2, a.2 e1]
  · rcases y.blk id hid with ⟨h1, h2⟩ | h1
    · rcases x.blk id h1 with ⟨h3, h4⟩ | h3
      · exact .inl ⟨h3, by rw [h2, h4]⟩
      · exact .inr (by rw [h2]; exact h3)
    · exact .inr (Nat.le_trans x.size h1)
  · rw [y.frame k (Nat.lt_of_lt_of_le hk x.size) hkl (x.img hk hf), x.frame k hk hkl hf]

def NoCells (h : Array Obj) (l : Nat) : Prop := ∀ cs e fr, h[l]? ≠ some (.cells cs e fr)

theorem VRel.monoL {l N N' : Nat} {ρ ρ' : Nat → RB} {h h' : Array Obj} {v v' : Value} (r : VRel N ρ h v v') (x : ExtL l N ρ h N' ρ' h') (hl : NoCells h l) : VRel N' ρ' h' v v' := by
  induction r with
  | bool b => exact .bool b
  | int k n => exact .int k n
  | float k n => exact .float k n
  | string s => exact .string s
  | nilIface => exact .nilIface
  | nilFunc => exact .nilFunc
  | ptrNil => exact .ptrNil
  | ptr id off g a hid hg ha =>
    have y := x.gen id hid
    refine .ptr id off g a (Nat.lt_of_lt_of_le hid x.len) (Nat.le_trans hg y.1) fun e => ?_
    have e1 : (ρ' id).gen = (ρ id).gen := by omega
    rw [y.2 e1]
    exact ha (by omega)
  | sliceNil => exact .sliceNil
  | slice id off g n c c' a hid hg hn ha =>
    have y := x.gen id hid
    refine .slice id off g n c c' a (Nat.lt_of_lt_of_le hid x.len) (Nat.le_trans hg y.1) hn fun e => ?_
    have e1 : (ρ' id).gen = (ρ id).gen := by omega
    rw [y.2 e1]
    exact ha (by omega)
  | agg cs cs' hs hc ih => exact .agg cs cs' hs ih
  | tuple cs cs' hs hc ih => exact .tuple cs cs' hs ih
  | iface t v v' hv ih => exact .iface t v v' ih
  | func f fs fs' cs cs' hs hf hs' hc ih1 ih2 => exact .func f fs fs' cs cs' hs ih1 hs' ih2
  | marker cs cs' k n c e fr hk hn hf hh hs hc ih =>
    have hkl : k ≠ l := fun he => hl _ _ _ (he ▸ hh)
    exact .marker cs cs' k n c e fr (Nat.lt_of_lt_of_le hk x.size) hn (x.img hk hf) (by rw [x.frame k hk hkl hf]; exact hh) hs ih

theorem LRel.monoL {l N N' : Nat} {ρ ρ' : Nat → RB} {h h' : Array Obj} {u u' : List Value} (r : LRel N ρ h u u') (x : ExtL l N ρ h N' ρ' h') (hl : NoCells h l) : LRel N' ρ' h' u u' :=
  ⟨r.1, fun i v v' a b => (r.2 i v v' a b).monoL x hl⟩

/-- A block that holds no cells, laid since the first world, turns: the boxes lie as they lay. -/
theorem Rel.putObj {w0 w : World} {ρ : Nat → RB} {H : Heap} (R : Rel w0 ρ H w) {l : Nat} (hl : w0.heap.size ≤ l) (hlt : l < w.heap.size) (hn : NoCells w.heap l) (o : Obj) :
    Rel w0 ρ H (w.putObj l o) ∧ ExtL l H.length ρ w.heap H.length ρ (w.putObj l o).heap := by
  have x : ExtL l H.length ρ w.heap H.length ρ (w.putObj l o).heap := ⟨Nat.le_refl _, fun _ _ => ⟨Nat.le_refl _, fun _ => rfl⟩, fun _ h => .inl ⟨h, rfl⟩, by simp, fun k _ hk _ => World.putObj_heap_other hk⟩
  refine ⟨⟨?_, fun id bx hb => ?_, R.sep⟩, x⟩
  · exact ⟨R.below.os, R.below.tape, R.below.output, by have := R.below.size; simpa using this, fun k hk => (World.putObj_heap_other (by omega)).trans (R.below.block k hk)⟩
  · have hB := R.box id bx hb
    obtain ⟨cs, e, fr, q1, q2, q3, q4⟩ := hB.cells
    have hne : (ρ id).blk ≠ l := fun he => hn _ _ _ (he ▸ q1)
    refine ⟨hB.gen, hB.row, hB.fresh, cs, e, fr, by rw [World.putObj_heap_other hne]; exact q1, q2, q3, fun i v hv => ?_⟩
    obtain ⟨v', k1, k2⟩ := q4 i v hv
    exact ⟨v', k1, k2.monoL x hn⟩

theorem noCells_loop {h : Array Obj} {l : Nat} {r : Loop} (hl : h[l]? = some (.loop r)) : NoCells h l := fun cs e fr he => by rw [hl] at he; cases he
theorem noCells_deferred {h : Array Obj} {l : Nat} {r : Option (List Deferred)} (hl : h[l]? = some (.deferred r)) : NoCells h l := fun cs e fr he => by rw [hl] at he; cases he
theorem lt_of_some {h : Array Obj} {l : Nat} {o : Obj} (hl : h[l]? = some o) : l < h.size := (Array.getElem?_eq_some_iff.1 hl).1

/-- New blocks. -/
theorem Rel.alloc' {w0 w : World} {ρ : Nat → RB} {H : Heap} (R : Rel w0 ρ H w) (o : Obj) : Rel w0 ρ H (w.alloc o) ∧ Ext H.length ρ w.heap H.length ρ (w.alloc o).heap := by
  have b : Below w.heap.size w (w.alloc o) := (Below.refl _ w).alloc (Nat.le_refl _) o
  have x : Ext H.length ρ w.heap H.length ρ (w.alloc o).heap := ⟨Nat.le_refl _, fun _ _ => ⟨Nat.le_refl _, fun _ => rfl⟩, fun _ h => .inl ⟨h, rfl⟩, b.size, fun k hk _ => b.block k hk⟩
  refine ⟨⟨?_, fun id bx hb => ?_, R.sep⟩, x⟩
  · exact ⟨b.os.trans R.below.os, b.tape.trans R.below.tape, b.output.trans R.below.output, Nat.le_trans R.below.size b.size, fun k hk => (b.block k (Nat.lt_of_lt_of_le hk R.below.size)).trans (R.below.block k hk)⟩
  · have hB := R.box id bx hb
    obtain ⟨cs, e, fr, q1, q2, q3, q4⟩ := hB.cells
    refine ⟨hB.gen, hB.row, hB.fresh, cs, e, fr, by rw [b.block _ (R.boxBlk hb)]; exact q1, q2, q3, fun i v hv => ?_⟩
    obtain ⟨v', k1, k2⟩ := q4 i v hv
    exact ⟨v', k1, k2.mono x⟩

end Go.Lev


set_option linter.unusedVariables false
set_option linter.unusedSimpArgs false
namespace Go.Lev
open Go Go.RowKit

def cOps (P : Program) (nt : Nat) (ops : Array Oper) (marks : List Nat) : List Oper → Option (List ROp)
  | [] => some []
  | o :: l => match cROp P nt ops marks o, cOps P nt ops marks l with
    | some r, some rs => some (r :: rs)
    | _, _ => none

/-- The function literal that strings.SplitSeq hands back, and the search that it calls. -/
def splitOf (P : Program) : Option (FuncId × FuncId) := match P.funcs.findIdx? (·.name == "strings.splitSeq$1"), P.funcs.findIdx? (·.name == "strings.Index") with
  | some a, some b => some (a, b)
  | _, _ => none

/-- The closures of which the table says that they leave the memory as it is. -/
def plist (P : Program) (pf : FuncId → Bool) : List Nat := (List.range P.funcs.size).filter fun k => pf k && (match P.funcs[k]? with
  | some f => f.nfree != 0
  | none => false)
/-- A call of a function value that must be one of these. -/
def purify (l : List Nat) (r : ROp) : ROp := match r.lo with
  | .call (.tmp t) xs => { r with lo := .callP l (.tmp t) xs }
  | _ => r

/-- sp: a loop over a function may stand here. -/
def compC (P : Program) (nt : Nat) (pf : FuncId → Bool) (sp : Bool) : Code → Option LC
  | .skip => some .skip
  | .label _ => some .skip
  | .ret => some .ret
  | .exit id => some (.exit id)
  | .seq a b => match compC P nt pf sp a, compC P nt pf sp b with
    | some x, some y => some (.seq x y)
    | _, _ => none
  | .cond c a b => if okX c then match compC P nt pf sp a, compC P nt pf sp b with
      | some x, some y => some (.cond c x y)
      | _, _ => none
    else none
  | .block id b => (compC P nt pf sp b).map (.block id)
  | .loop b => (compC P nt pf sp b).map .loop
  | .scope b => compC P nt pf sp b
  | .region _ ops draw => match cOps P nt ops (marksOf ops.toList) ops.toList with
    | some rops => if draw then
        (if P.follows .mixedOrders then
          (if drawOK pf ops rops then some (.region rops)
           else if drawD pf ops (rops.map (purify (plist P pf))) (drawPrs pf ops (rops.map (purify (plist P pf)))) then some (.regionD (rops.map (purify (plist P pf))) (drawPrs pf ops (rops.map (purify (plist P pf))))) else none)
         else none) else some (.region rops)
    | none => none
  | .rangeFunc g ps a b => if sp && okX g then match ps.toList, splitOf P, compC P nt pf false a, compC P nt pf false b with
      | [t], some (kf, idx), some x, some y => if t < nt then some (.split kf idx g t x y) else none
      | _, _, _, _ => none
    else none
  | _ => none

theorem cOps_get {P : Program} {nt : Nat} {ops : Array Oper} {marks : List Nat} : ∀ (l : List Oper) (rs : List ROp), cOps P nt ops marks l = some rs → rs.length = l.length ∧ ∀ (i : Nat) (o : Oper) (r : ROp), l[i]? = some o → rs[i]? = some r → cROp P nt ops marks o = some r
  | [], rs, h => by
    simp only [cOps, Option.some.injEq] at h
    subst h
    exact ⟨rfl, fun i o r h _ => by simp at h⟩
  | o :: l, rs, h => by
    simp only [cOps] at h
    split at h
    · rename_i r rs' hr hrs
      obtain rfl := Option.some.inj h
      obtain ⟨h1, h2⟩ := cOps_get l rs' hrs
      refine ⟨by simp [h1], fun i o' r' hi hi' => ?_⟩
      cases i with
      | zero => simp at hi hi'; subst hi hi'; exact hr
      | succ i => exact h2 i o' r' (by simpa using hi) (by simpa using hi')
    · simp at h

theorem regRel_of {P : Program} {nt : Nat} {ops : Array Oper} {marks : List Nat} {rs : List ROp} (h : cOps P nt ops marks ops.toList = some rs) : RegRel P nt ops rs := by
  obtain ⟨h1, h2⟩ := cOps_get _ _ h
  exact ⟨by simpa using h1, fun i o r hi hr => ⟨marks, r, h2 i o r (by simpa using hi) hr, rfl, rfl, .inl rfl⟩⟩

theorem regRel_pure {P : Program} {nt : Nat} {ops : Array Oper} {rs : List ROp} (h : RegRel P nt ops rs) (l : List Nat) : RegRel P nt ops (rs.map (purify l)) := by
  refine ⟨by simp [h.len], fun i o r hi hr => ?_⟩
  simp only [List.getElem?_map, Option.map_eq_some_iff] at hr
  obtain ⟨r1, hr1, rfl⟩ := hr
  obtain ⟨marks, r0, q1, q2, q3, q4⟩ := h.each i o r1 hi hr1
  unfold purify
  split
  · rename_i t xs hlo
    refine ⟨marks, r0, q1, q2, q3, .inr ⟨l, .tmp t, xs, rfl, ?_⟩⟩
    rcases q4 with e | ⟨_, _, _, e1, _⟩
    · rw [← e, hlo]
    · rw [hlo] at e1; cases e1
  · exact ⟨marks, r0, q1, q2, q3, q4⟩

def exOf : Ex → Exit
  | .normal => .normal
  | .ret => .ret
  | .exit id => .exit id

section
variable {P : Program} {T : Tab} {fl nt n0 n : Nat} {w0 : World}

theorem iter_sound {r0 : Option Nat} {c : Code} {f : St → Option (Ex × St)} {Q : Exit → Act → World → Prop}
    (hf : ∀ (st : St) (ex : Ex) (st' : St) (a : Act) (w : World) (ρ : Nat → RB) (Q : Exit → Act → World → Prop), f st = some (ex, st') → SRel w0 ρ nt n0 st a w → (∀ a' w' ρ', SRel w0 ρ' nt n0 st' a' w' → Ext st.heap.length ρ w.heap st'.heap.length ρ' w'.heap → Q (exOf ex) a' w') → c.wpIn (FW r0) n P Q a w) :
    ∀ (k : Nat) (st : St) (ex : Ex) (st' : St) (a : Act) (w : World) (ρ : Nat → RB), iter f k st = some (ex, st') → SRel w0 ρ nt n0 st a w → (∀ a' w' ρ', SRel w0 ρ' nt n0 st' a' w' → Ext st.heap.length ρ w.heap st'.heap.length ρ' w'.heap → Q (exOf ex) a' w') → Code.roundsIn (FW r0) n P c Q k a w
  | 0, st, ex, st', a, w, ρ, h, S, hq => by simp [iter] at h
  | k + 1, st, ex, st', a, w, ρ, h, S, hq => by
    rw [roundsIn_succ]
    simp only [iter] at h
    split at h
    · rename_i s1 h1
      refine hf st .normal s1 a w ρ _ h1 S fun a' w' ρ' S' X => ?_
      exact iter_sound hf k s1 ex st' a' w' ρ' h S' fun a2 w2 ρ2 S2 X2 => hq a2 w2 ρ2 S2 (X.trans X2)
    · rename_i r hne
      refine hf st ex st' a w ρ _ h S fun a' w' ρ' S' X => ?_
      cases ex with
      | normal => exact absurd h (hne st')
      | ret => exact hq a' w' ρ' S' X
      | exit id => exact hq a' w' ρ' S' X

theorem stepR_scope {c : Code} {b : Frame} {a : Act} {k : List Item} {cs : List Frame} {w : World} : step P (lone (b.atR a (.code (.scope c) :: k)) cs w) = .next (lone (b.atR a (.code c :: .inScope c :: k)) cs w) :=
  step_lone_go (by simp [stepG, stepG.exec, Frame.atR])
theorem stepR_inScope {c : Code} {b : Frame} {a : Act} {k : List Item} {cs : List Frame} {w : World} : step P (lone (b.atR a (.inScope c :: k)) cs w) = .next (lone (b.atR a k) cs w) :=
  step_lone_go (by simp [stepG, stepG.exec, Frame.atR])

theorem wpIn_scope_straight {F : Fence} {Q : Exit → Act → World → Prop} {a : Act} {w : World} {c : Code} (h : c.wpIn F n P (Exit.noGoto Q) a w) : (Code.scope c).wpIn F n P Q a w := by
  intro b k cs hro hb hr
  have h0 : (lone (b.atR a (.code (.scope c) :: k)) cs w).fenced P F := fenced_calm hb hr rfl
  obtain ⟨e, a₁, w₁, hq, harr⟩ := h b (.inScope c :: k) cs hro hb hr
  cases e with
  | normal => exact ⟨.normal, a₁, w₁, hq, .head h0 stepR_scope (StepsIn.trans harr (.one (fenced_calm hb hr rfl) stepR_inScope))⟩
  | exit id =>
    exact ⟨.exit id, a₁, w₁, hq, fun k' hk => .head h0 stepR_scope (harr.1 k' (by simp [exitTo, hk])),
      fun hr' hk => let ⟨k₁, h1, h2⟩ := harr.2 hr' (by simp [exitTo, hk]); ⟨k₁, h1, .head h0 stepR_scope h2⟩⟩
  | goto l => exact hq.elim
  | ret => exact ⟨_, a₁, w₁, hq, .of_steps (.one h0 stepR_scope) harr⟩
  | panic ch => exact ⟨_, a₁, w₁, hq, .of_steps (.one h0 stepR_scope) harr⟩
  | outgrown => exact ⟨_, a₁, w₁, hq, .of_steps (.one h0 stepR_scope) harr⟩

/-- The record behind a round. -/
def stepRec (r : Loop) : Ex → Loop
  | .normal => r
  | .ret => { r with state := .done, pending := some .ret }
  | .exit id => { r with state := .done, pending := some (.exit id) }

/-- What the rounds do: rnd. -/
def RoundOK (P : Program) (w0 : World) (l : Nat) (r : Loop) (rnd : Value → Heap → Option (Ex × Heap)) (N : Nat) (ρ : Nat → RB) (h : Array Obj) : Prop :=
  ∀ (n : Nat) (ρ1 : Nat → RB) (H1 : Heap) (w1 : World) (v v' : Value) (ex : Ex) (H2 : Heap), ExtL l N ρ h H1.length ρ1 w1.heap → Rel w0 ρ1 H1 w1 → w1.heap[l]? = some (.loop r) → VRel H1.length ρ1 w1.heap v v' → rnd v H1 = some (ex, H2) →
    RoundIn (FW none) n P l r.fn ((r.params.zip #[v']).foldl (fun tmps (t, a) => tmps.setIfInBounds t a) r.tmps) r.assign r.body w1 fun e w2 =>
      e = .returned (.bool (ex == .normal)) ∧ ∃ ρ2, Rel w0 ρ2 H2 w2 ∧ ExtL l H1.length ρ1 w1.heap H2.length ρ2 w2.heap ∧ w2.heap[l]? = some (.loop (stepRec r ex))

/-- What a call of the function literal of strings.SplitSeq does with a loop's rounds. -/
def SplitSound (P : Program) (w0 : World) (kf idx : FuncId) : Prop := callOK P kf ∧
  ∀ (T : Tab) (fl : Nat) (rnd : Value → Heap → Option (Ex × Heap)) (asep ad asave : Addr) (sep : ByteArray) (k : Nat) (H H' : Heap) (ex : Ex), Valid P w0 T → rd1 H asep = some (.string sep) → sep.size ≠ 0 → splitRun T fl idx rnd asep ad asave k H = some (ex, H') →
    ∀ (n l : Nat) (r : Loop) (ρ : Nat → RB) (w : World) (cs : Array Value), Rel w0 ρ H w → w0.heap.size ≤ l → w.heap[l]? = some (.loop r) → r.state = .ready → r.pending = none → r.params.size = 1 →
      LRel H.length ρ w.heap [.pointer (some asep), .pointer (some ad), .pointer (some asave)] cs.toList → RoundOK P w0 l r rnd H.length ρ w.heap →
      CallsIn (FW none) n P kf (#[.func (.yield l) #[] #[]] ++ cs) w fun e w' => (∃ v, e = .returned v) ∧ ∃ ρ', Rel w0 ρ' H' w' ∧ ExtL l H.length ρ w.heap H'.length ρ' w'.heap ∧ w'.heap[l]? = some (.loop (stepRec r ex))

theorem SRel.moved {ρ : Nat → RB} {st : St} {a : Act} {w : World} (S : SRel w0 ρ nt n0 st a w) {l : Nat} {r : Loop} (hl : w0.heap.size ≤ l) (hn : w.heap[l]? = some (.loop r)) (o : Obj) : SRel w0 ρ nt n0 st a (w.putObj l o) := by
  obtain ⟨R, X⟩ := S.rel.putObj hl (lt_of_some hn) (noCells_loop hn) o
  refine ⟨R, fun t => (S.env t).monoL X (noCells_loop hn), S.size, ?_, by have := S.base; simpa using this⟩
  obtain ⟨rs, h1, h2, h3⟩ := S.defers
  refine ⟨rs, h1, h2, fun k hk => ⟨(h3 k hk).1, ?_⟩⟩
  have h4 := (h3 k hk).2
  rw [World.putObj_heap_other fun e => by rw [e, hn] at h4; cases h4]
  exact h4

theorem wpIn_anyN {r0 : Option Nat} {m : Nat} {c : Code} {Q : Exit → Act → World → Prop} {a : Act} {w : World} (h : c.wpIn (FW r0) n P Q a w) : c.wpIn (FW r0) m P Q a w :=
  fun b k cs hro hb _ => h b k cs hro hb fun _ hd => by simp [FW, Fence.wide] at hd

theorem split_sound (hT : Valid P w0 T) {pf : FuncId → Bool} (hp : PureOK T pf) (hsp : ∀ kf idx, splitOf P = some (kf, idx) → SplitSound P w0 kf idx) {kf idx : FuncId} (hso : splitOf P = some (kf, idx)) {k : Nat} {x y : Code} {lx ly : LC}
    (ihx : ∀ (l : Nat) (st : St) (ex : Ex) (st' : St) (a : Act) (w : World) (ρ : Nat → RB) (Q : Exit → Act → World → Prop), lx.run P T fl k st = some (ex, st') → SRel w0 ρ nt 0 st a w → (∀ a' w' ρ', SRel w0 ρ' nt 0 st' a' w' → Ext st.heap.length ρ w.heap st'.heap.length ρ' w'.heap → Q (exOf ex) a' w') → x.wpIn (FW (some l)) n P Q a w)
    (ihy : ∀ (l : Nat) (st : St) (ex : Ex) (st' : St) (a : Act) (w : World) (ρ : Nat → RB) (Q : Exit → Act → World → Prop), ly.run P T fl k st = some (ex, st') → SRel w0 ρ nt 0 st a w → (∀ a' w' ρ', SRel w0 ρ' nt 0 st' a' w' → Ext st.heap.length ρ w.heap st'.heap.length ρ' w'.heap → Q (exOf ex) a' w') → y.wpIn (FW (some l)) n P Q a w)
    {g : Operand} (hok : okX g = true) {ps : Array Tmp} {t : Nat} (hps : ps.toList = [t]) (htn : t < nt) {st st' : St} {ex : Ex} {a : Act} {w : World} {ρ : Nat → RB} {Q : Exit → Act → World → Prop}
    (h : (LC.split kf idx g t lx ly).run P T fl k st = some (ex, st')) (S : SRel w0 ρ nt n0 st a w) (hq : ∀ a' w' ρ', SRel w0 ρ' nt n0 st' a' w' → Ext st.heap.length ρ w.heap st'.heap.length ρ' w'.heap → Q (exOf ex) a' w') :
    (Code.rangeFunc g ps x y).wpIn (FW none) n P Q a w := by
  simp only [LC.run] at h
  split at h
  case h_2 => simp at h
  rename_i f fs cs hev
  split at h
  case isFalse => simp at h
  rename_i hf
  obtain ⟨rfl, hfs⟩ := hf
  split at h
  case h_2 => simp at h
  rename_i asep ad asave hcs
  split at h
  case isFalse => simp at h
  rename_i hz
  unfold hasSep at hz
  split at hz
  case h_2 => simp at hz
  rename_i sep hsep0
  have hsep : sep.size ≠ 0 := by simpa using hz
  simp only [Option.map_eq_some_iff] at h
  obtain ⟨⟨ex1, H'⟩, hrun, heq⟩ := h
  simp only [Prod.mk.injEq] at heq
  obtain ⟨rfl, rfl⟩ := heq
  have hv := S.env.ev hok
  rw [hev] at hv
  obtain ⟨cs', hg, hL⟩ : ∃ cs', a.eval g = .func (.func f) #[] cs' ∧ LRel st.heap.length ρ w.heap [.pointer (some asep), .pointer (some ad), .pointer (some asave)] cs'.toList := by
    generalize a.eval g = X at hv
    cases hv with
    | func _ _ fs' _ cs' h1 h2 h3 h4 =>
      have : fs' = #[] := Array.eq_empty_of_size_eq_zero (by omega)
      subst this
      refine ⟨cs', rfl, ?_⟩
      rw [← hcs]
      exact ⟨by simpa using h3, fun i u u' q1 q2 => h4 i u u' (by simpa using q1) (by simpa using q2)⟩
  obtain ⟨hcall, hS⟩ := hsp _ _ hso
  refine wpIn_rangeFunc fun fn hfn => ?_
  have hps' : ps = #[t] := by apply Array.toList_inj.1; simpa using hps
  obtain ⟨rec, hrec⟩ : ∃ rec : Loop, rec = { state := .ready, pending := none, fn, tmps := a.tmps, params := ps, assign := x, body := y, defers := w.heap.size } := ⟨_, rfl⟩
  obtain ⟨W1, hW1⟩ : ∃ W1, (w.alloc (.deferred (some []))).alloc (.loop rec) = W1 := ⟨_, rfl⟩
  have hL1 : W1.heap[w.heap.size + 1]? = some (.loop rec) := by
    rw [← hW1]; have := World.alloc_heap_new (w.alloc (.deferred (some []))) (.loop rec); rwa [World.size_alloc] at this
  have hK1 : W1.heap[w.heap.size]? = some (.deferred (some [])) := by
    rw [← hW1]; exact (Below.heap_alloc _ _ _ (by simp)).trans (World.alloc_heap_new w _)
  obtain ⟨Ra, Xa⟩ := S.rel.alloc' (.deferred (some []))
  obtain ⟨Rb, Xb⟩ := Ra.alloc' (.loop rec)
  rw [hW1] at Rb Xb
  have X1 := Xa.trans Xb
  have h0l : w0.heap.size ≤ w.heap.size := S.rel.below.size
  refine ⟨w.heap.size + 1, [{ target := .collected w.heap.size, args := #[] }], W1, { target := .fn (.func f) cs', args := #[.func (.yield (w.heap.size + 1)) #[] #[]] }, W1, f,
    #[.func (.yield (w.heap.size + 1)) #[] #[]] ++ cs', W1, ?_, ?_, fun _ _ => trivial, ?_, fun h => by simp [FW, Fence.wide] at h, ?_⟩
  · rw [← hW1, hrec]; exact run_enterLoop_outer _ _ _ _ _
  · simp only [resolve, hg]
    simp [go_sem]
  · obtain ⟨fn', hfn', hname, hbody⟩ := hcall
    have hb2 : fn'.body ≠ none := by intro h; simp [h] at hbody
    have hn2 : ¬ fn'.name = "runtime.NumGoroutine" := by
      intro h
      rw [h] at hname
      simp at hname
    simp [invoke, callFunc, hfn', hn2, hb2]
  · refine (hS T fl _ asep ad asave sep k st.heap H' ex1 hT hsep0 hsep hrun (n - 1) (w.heap.size + 1) rec ρ W1 cs' Rb (by omega) hL1 (by rw [hrec]) (by rw [hrec]) (by rw [hrec, hps']; rfl) (hL.mono X1) ?_).mono ?_
    · -- one round
      intro m ρ1 H1 w1 v v' ex2 H2 Y R1 hl1 hvv hr
      dsimp only at hr
      split at hr
      case h_2 => simp at hr
      rename_i s1 hs1
      split at hr
      case h_2 => simp at hr
      rename_i ex3 s2 hs2
      simp only [Option.some.injEq, Prod.mk.injEq] at hr
      obtain ⟨rfl, rfl⟩ := hr
      have hparams : rec.params = #[t] := by rw [hrec]; exact hps'
      have htm : rec.tmps = a.tmps := by rw [hrec]
      have hasg : rec.assign = x := by rw [hrec]
      have hbod : rec.body = y := by rw [hrec]
      rw [hparams, htm, hasg, hbod]
      refine roundIn_of_wpIn trivial ?_
      have S1 : SRel w0 ρ1 nt 0 ⟨upd st.env t v, H1⟩ { tmps := (#[t].zip #[v']).foldl (fun tmps (t, a) => tmps.setIfInBounds t a) a.tmps, defers := [] } w1 := by
        refine ⟨R1, ?_, by simp [S.size], .nil _ _, Nat.zero_le _⟩
        have E1 : ERel H1.length ρ1 w1.heap st.env { tmps := a.tmps, defers := [] } := fun j => ((S.env j).mono X1).monoL Y (noCells_loop hL1)
        have := E1.put (dst := some t) (fun d hd => by cases hd; rw [S.size]; exact htn) hvv
        simpa [Lev.put, Act.put] using this
      refine wpIn_anyN (ihx _ _ .normal s1 _ w1 ρ1 _ hs1 S1 fun a1 w2 ρ2 S2 X2 => ?_)
      have hl2 : w2.heap[w.heap.size + 1]? = some (.loop rec) := by
        rw [X2.frame _ (lt_of_some hl1) (R1.noBox hl1 fun _ _ _ e => by cases e)]; exact hl1
      refine ⟨_, run_beginRound hl2 (by rw [hrec]), ?_⟩
      obtain ⟨R2b, X2b⟩ := S2.rel.putObj (l := w.heap.size + 1) (by omega) (lt_of_some hl2) (noCells_loop hl2) (.loop { rec with state := .busy })
      refine wpIn_anyN (ihy _ s1 ex3 s2 a1 _ ρ2 _ hs2 (S2.moved (by omega) hl2 _) fun a3 w3 ρ3 S3 X3 => ?_)
      have hl2c : (w2.putObj (w.heap.size + 1) (.loop { rec with state := .busy })).heap[w.heap.size + 1]? = some (.loop { rec with state := .busy }) := World.putObj_heap_same (lt_of_some hl2)
      have hl3 : w3.heap[w.heap.size + 1]? = some (.loop { rec with state := .busy }) := by
        rw [X3.frame _ (lt_of_some hl2c) (R2b.noBox hl2c fun _ _ _ e => by cases e)]; exact hl2c
      obtain ⟨R4, X4⟩ := S3.rel.putObj (l := w.heap.size + 1) (by omega) (lt_of_some hl3) (noCells_loop hl3) (.loop (stepRec rec ex3))
      have Y4 := (((X2.toL (w.heap.size + 1)).trans X2b).trans (X3.toL (w.heap.size + 1))).trans X4
      have hl4 : (w3.putObj (w.heap.size + 1) (.loop (stepRec rec ex3))).heap[w.heap.size + 1]? = some (.loop (stepRec rec ex3)) := World.putObj_heap_same (lt_of_some hl3)
      cases ex3 with
      | normal =>
        have he := run_endRound (P := P) none hl3
        rw [show (({ rec with state := LoopState.busy } : Loop)) = { rec with state := .busy } from rfl] at he
        have hs : (Obj.loop { ({ rec with state := LoopState.busy } : Loop) with state := if (none : Option Code).isNone then LoopState.ready else LoopState.done, pending := none }) = .loop (stepRec rec .normal) := by rw [hrec]; rfl
        rw [hs] at he
        exact ⟨_, _, he, rfl, ρ3, R4, Y4, hl4⟩
      | ret => exact ⟨_, _, run_endRound (P := P) (some .ret) hl3, rfl, ρ3, R4, Y4, hl4⟩
      | exit id => exact ⟨_, _, run_endRound (P := P) (some (.exit id)) hl3, rfl, ρ3, R4, Y4, hl4⟩
    · rintro e w' ⟨⟨v, rfl⟩, ρ', R', Y', hl'⟩
      have hst : (stepRec rec ex1).state ≠ .busy := by cases ex1 <;> simp [stepRec, hrec]
      refine ⟨_, _, run_endLoop hl' hst, ?_⟩
      obtain ⟨R5, X5⟩ := R'.putObj (l := w.heap.size + 1) (by omega) (lt_of_some hl') (noCells_loop hl') (.loop { stepRec rec ex1 with state := .exhausted })
      have Xall := X1.thenL (Y'.trans X5) (by omega)
      have hK' : (w'.putObj (w.heap.size + 1) (.loop { stepRec rec ex1 with state := .exhausted })).heap[w.heap.size]? = some (.deferred (some [])) := by
        rw [World.putObj_heap_other (by omega), Y'.frame _ (lt_of_some hK1) (by omega) (Rb.noBox hK1 fun _ _ _ e => by cases e)]
        exact hK1
      have S' : SRel w0 ρ' nt n0 ⟨st.env, H'⟩ { a with defers := [{ target := .collected w.heap.size, args := #[] }] ++ a.defers } (w'.putObj (w.heap.size + 1) (.loop { stepRec rec ex1 with state := .exhausted })) := by
        refine ⟨R5, fun j => (S.env j).mono Xall, S.size, ?_, Nat.le_trans S.base Xall.size⟩
        obtain ⟨rs, q1, q2, q3⟩ := S.defers
        obtain ⟨rs', q4, q5, q6⟩ := S.defers.ext S.rel Xall
        refine ⟨w.heap.size :: rs, by simp [q1], List.nodup_cons.2 ⟨fun hm => ?_, q2⟩, fun r hr => ?_⟩
        · have := lt_of_some (q3 _ hm).2; omega
        · rcases List.mem_cons.1 hr with rfl | hr
          · exact ⟨S.base, hK'⟩
          · refine ⟨(q3 r hr).1, ?_⟩
            rw [Xall.frame r (lt_of_some (q3 r hr).2) (S.rel.noBox (q3 r hr).2 fun _ _ _ e => by cases e)]
            exact (q3 r hr).2
      have hq' := hq _ _ ρ' S' Xall
      cases ex1 with
      | normal =>
        subst hrec
        exact hq'
      | ret => exact wpIn_ret hq'
      | exit id => exact wpIn_exit hq'

theorem code_sound (hT : Valid P w0 T) {pf : FuncId → Bool} (hp : PureOK T pf) (hsp : ∀ kf idx, splitOf P = some (kf, idx) → SplitSound P w0 kf idx) (k : Nat) : ∀ (c : Code) (sp : Bool) (r0 : Option Nat) (hr0 : sp = true → r0 = none) (n0 : Nat) (lc : LC), compC P nt pf sp c = some lc → ∀ (st : St) (ex : Ex) (st' : St) (a : Act) (w : World) (ρ : Nat → RB) (Q : Exit → Act → World → Prop),
    lc.run P T fl k st = some (ex, st') → SRel w0 ρ nt n0 st a w → (∀ a' w' ρ', SRel w0 ρ' nt n0 st' a' w' → Ext st.heap.length ρ w.heap st'.heap.length ρ' w'.heap → Q (exOf ex) a' w') → c.wpIn (FW r0) n P Q a w := by
  intro c
  induction c with
  | skip =>
    intro sp r0 hr0 n0 lc hc st ex st' a w ρ Q h S hq
    simp only [compC, Option.some.injEq] at hc
    subst hc
    simp only [LC.run, Option.some.injEq, Prod.mk.injEq] at h
    obtain ⟨rfl, rfl⟩ := h
    exact wpIn_skip (hq a w ρ S (.refl _ _ _))
  | label l =>
    intro sp r0 hr0 n0 lc hc st ex st' a w ρ Q h S hq
    simp only [compC, Option.some.injEq] at hc
    subst hc
    simp only [LC.run, Option.some.injEq, Prod.mk.injEq] at h
    obtain ⟨rfl, rfl⟩ := h
    exact wpIn_label (hq a w ρ S (.refl _ _ _))
  | ret =>
    intro sp r0 hr0 n0 lc hc st ex st' a w ρ Q h S hq
    simp only [compC, Option.some.injEq] at hc
    subst hc
    simp only [LC.run, Option.some.injEq, Prod.mk.injEq] at h
    obtain ⟨rfl, rfl⟩ := h
    exact wpIn_ret (hq a w ρ S (.refl _ _ _))
  | exit id =>
    intro sp r0 hr0 n0 lc hc st ex st' a w ρ Q h S hq
    simp only [compC, Option.some.injEq] at hc
    subst hc
    simp only [LC.run, Option.some.injEq, Prod.mk.injEq] at h
    obtain ⟨rfl, rfl⟩ := h
    exact wpIn_exit (hq a w ρ S (.refl _ _ _))
  | seq x y ihx ihy =>
    intro sp r0 hr0 n0 lc hc st ex st' a w ρ Q h S hq
    simp only [compC] at hc
    split at hc
    · rename_i lx ly hx hy
      obtain rfl := Option.some.inj hc
      simp only [LC.run] at h
      refine wpIn_seq ?_
      split at h
      · rename_i s1 h1
        refine ihx sp r0 hr0 n0 lx hx st .normal s1 a w ρ _ h1 S fun a' w' ρ' S' X => ?_
        exact ihy sp r0 hr0 n0 ly hy s1 ex st' a' w' ρ' Q h S' fun a2 w2 ρ2 S2 X2 => hq a2 w2 ρ2 S2 (X.trans X2)
      · rename_i r hne
        refine ihx sp r0 hr0 n0 lx hx st ex st' a w ρ _ h S fun a' w' ρ' S' X => ?_
        cases ex with
        | normal => exact absurd h (hne st')
        | ret => exact hq a' w' ρ' S' X
        | exit id => exact hq a' w' ρ' S' X
    · simp at hc
  | cond c x y ihx ihy =>
    intro sp r0 hr0 n0 lc hc st ex st' a w ρ Q h S hq
    simp only [compC] at hc
    split at hc
    · rename_i hok
      split at hc
      · rename_i lx ly hx hy
        obtain rfl := Option.some.inj hc
        simp only [LC.run] at h
        split at h
        · rename_i t hev
          have hv := S.env.ev hok
          rw [hev] at hv
          have hv' : a.eval c = .bool t := by generalize a.eval c = X at hv; cases hv; rfl
          refine wpIn_cond hv' ?_
          cases t with
          | true => exact ihx sp r0 hr0 n0 lx hx st ex st' a w ρ Q h S hq
          | false => exact ihy sp r0 hr0 n0 ly hy st ex st' a w ρ Q h S hq
        · simp at h
      · simp at hc
    · simp at hc
  | block id b ih =>
    intro sp r0 hr0 n0 lc hc st ex st' a w ρ Q h S hq
    simp only [compC, Option.map_eq_some_iff] at hc
    obtain ⟨lb, hb, rfl⟩ := hc
    simp only [LC.run] at h
    refine wpIn_block ?_
    split at h
    · rename_i id' s1 h1
      refine ih sp r0 hr0 n0 lb hb st (.exit id') s1 a w ρ _ h1 S fun a' w' ρ' S' X => ?_
      simp only [exOf, Exit.inBlock]
      split at h
      · rename_i he
        simp only [Option.some.injEq, Prod.mk.injEq] at h
        obtain ⟨rfl, rfl⟩ := h
        rw [if_pos he]
        exact hq a' w' ρ' S' X
      · rename_i he
        simp only [Option.some.injEq, Prod.mk.injEq] at h
        obtain ⟨rfl, rfl⟩ := h
        rw [if_neg he]
        exact hq a' w' ρ' S' X
    · rename_i r hne
      refine ih sp r0 hr0 n0 lb hb st ex st' a w ρ _ h S fun a' w' ρ' S' X => ?_
      cases ex with
      | normal => exact hq a' w' ρ' S' X
      | ret => exact hq a' w' ρ' S' X
      | exit id' => exact absurd h (hne id' st')
  | loop b ih =>
    intro sp r0 hr0 n0 lc hc st ex st' a w ρ Q h S hq
    simp only [compC, Option.map_eq_some_iff] at hc
    obtain ⟨lb, hb, rfl⟩ := hc
    simp only [LC.run] at h
    exact wpIn_loop_rounds k (iter_sound (fun st ex st' a w ρ Q h S hq => ih sp r0 hr0 n0 lb hb st ex st' a w ρ Q h S hq) k st ex st' a w ρ h S hq)
  | scope b ih =>
    intro sp r0 hr0 n0 lc hc st ex st' a w ρ Q h S hq
    simp only [compC] at hc
    refine wpIn_scope_straight (ih sp r0 hr0 n0 lc hc st ex st' a w ρ _ h S fun a' w' ρ' S' X => ?_)
    cases ex <;> exact hq a' w' ρ' S' X
  | region id ops draw =>
    intro sp r0 hr0 n0 lc hc st ex st' a w ρ Q h S hq
    simp only [compC] at hc
    split at hc
    · rename_i rops hro
      have hR := regRel_of hro
      cases draw with
      | false =>
        simp only [Bool.false_eq_true, if_false, Option.some.injEq] at hc
        subst hc
        simp only [LC.run, Option.map_eq_some_iff, Prod.mk.injEq] at h
        obtain ⟨s, hs, rfl, rfl⟩ := h
        exact wp_region_lev hT hR S hs hq
      | true =>
        simp only [if_true] at hc
        split at hc
        · rename_i hmix
          split at hc
          · rename_i hd
            obtain rfl := Option.some.inj hc
            simp only [LC.run, Option.map_eq_some_iff, Prod.mk.injEq] at h
            obtain ⟨s, hs, rfl, rfl⟩ := h
            exact wp_region_draw_lev hT hp hmix hR hd S hs hq
          · split at hc
            · rename_i hd
              obtain rfl := Option.some.inj hc
              simp only [LC.run] at h
              split at h
              · rename_i s hs
                split at h
                · rename_i hchk
                  simp only [Option.some.injEq, Prod.mk.injEq] at h
                  obtain ⟨rfl, rfl⟩ := h
                  exact wp_region_draw_levD hT hp hmix (regRel_pure hR _) hd S hs hchk hq
                · simp at h
              · simp at h
            · simp at hc
        · simp at hc
    · simp at hc
  | rangeFunc g ps x y ihx ihy =>
    intro sp r0 hr0 n0 lc hc st ex st' a w ρ Q h S hq
    simp only [compC] at hc
    split at hc
    · rename_i hok
      simp only [Bool.and_eq_true] at hok
      obtain rfl := hr0 hok.1
      split at hc
      · rename_i t kf idx lx ly hps hso hx hy
        split at hc
        · rename_i htn
          obtain rfl := Option.some.inj hc
          exact split_sound hT hp hsp hso (fun l => ihx false (some l) (by simp) 0 lx hx) (fun l => ihy false (some l) (by simp) 0 ly hy) hok.2 hps htn h S hq
        · simp at hc
      · simp at hc
    · simp at hc
  | _ => intro sp r0 hr0 n0 lc hc; simp [compC] at hc

end

/-! ### Functions -/
inductive LRes where
  | tmp (t : Nat)
  | cell1 (t : Nat)
  | cellN (t n : Nat)

structure LFn where
  nt : Nat
  body : LC
  results : List LRes

def cRes (P : Program) : List ResultVar → Option (List LRes)
  | [] => some []
  | .tmp t :: l => (cRes P l).map (.tmp t :: ·)
  | .cell t ty :: l => match tyAgg P ty, tySize P ty with
    | some false, some _ => (cRes P l).map (.cell1 t :: ·)
    | some true, some n => (cRes P l).map (.cellN t n :: ·)
    | _, _ => none

def compF (P : Program) (pf : FuncId → Bool) (fn : Func) : Option LFn :=
  match fn.body with
  | some c => if fn.name == "runtime.NumGoroutine" then none else
    match compC P fn.ntmps pf true c, cRes P fn.results.toList with
    | some lc, some rs => some ⟨fn.ntmps, lc, rs⟩
    | _, _ => none
  | none => none

def evRes (st : St) : LRes → Option Value
  | .tmp t => some (st.env t)
  | .cell1 t => match st.env t with
    | .pointer (some a) => rd1 st.heap a
    | _ => none
  | .cellN t n => match st.env t with
    | .pointer (some a) => (rdN st.heap a n).map fun l => .agg l.toArray
    | _ => none

def evAll (st : St) : List LRes → Option (List Value)
  | [] => some []
  | r :: l => match evRes st r, evAll st l with
    | some v, some vs => some (v :: vs)
    | _, _ => none

def packRes : List Value → Value
  | [v] => v
  | l => .tuple l.toArray

def initEnv (args : List Value) : Nat → Value := fun j => args.getD j undef

def levFn (P : Program) (T : Tab) (fl k : Nat) (F : LFn) (args : List Value) (H : Heap) : Option (Value × Heap) :=
  if args.length ≤ F.nt then
    match F.body.run P T fl k ⟨initEnv args, H⟩ with
    | some (.normal, st) => (evAll st F.results).map fun l => (packRes l, st.heap)
    | some (.ret, st) => (evAll st F.results).map fun l => (packRes l, st.heap)
    | _ => none
  else none

section
variable {P : Program} {T : Tab} {fl nt n0 : Nat} {w0 : World}

theorem res_sound {st : St} {a : Act} {w : World} {ρ : Nat → RB} (S : SRel w0 ρ nt n0 st a w) (g : ResultVar → Sem Value) (hg1 : ∀ t, (g (.tmp t)).run P w = .ok (a.tmps.getD t undef) w)
    (hg2 : ∀ b t, (g (.cell b t)).run P w = ((asAddr (a.tmps.getD b undef)).run P w).andThen fun x w' => (loadVar t x).run P w') : ∀ (rv : List ResultVar) (rs : List LRes) (l : List Value), cRes P rv = some rs → evAll st rs = some l →
    ∃ l' : List Value, (rv.mapM g).run P w = .ok l' w ∧ LRel st.heap.length ρ w.heap l l'
  | [], rs, l, h1, h2 => by
    simp only [cRes, Option.some.injEq] at h1
    subst h1
    simp only [evAll, Option.some.injEq] at h2
    subst h2
    exact ⟨[], by simp, .nil _ _ _⟩
  | .tmp t :: rv, rs, l, h1, h2 => by
    simp only [cRes, Option.map_eq_some_iff] at h1
    obtain ⟨rs', h1, rfl⟩ := h1
    simp only [evAll, evRes] at h2
    split at h2
    · rename_i v vs hv hvs
      obtain rfl := Option.some.inj h2
      obtain rfl := Option.some.inj hv
      obtain ⟨l', q1, q2⟩ := res_sound S g hg1 hg2 rv rs' vs h1 hvs
      exact ⟨a.tmps.getD t undef :: l', by rw [List.mapM_cons]; simp only [Sem.run_bind, hg1, Result.andThen_ok, q1, Sem.run_pure], .cons (S.env t) q2⟩
    · simp at h2
  | .cell b t :: rv, rs, l, h1, h2 => by
    simp only [cRes] at h1
    have hp := S.env b
    split at h1
    · rename_i n ha hn
      simp only [Option.map_eq_some_iff] at h1
      obtain ⟨rs', h1, rfl⟩ := h1
      simp only [evAll, evRes] at h2
      split at h2
      · rename_i v vs hv hvs
        obtain rfl := Option.some.inj h2
        split at hv
        · rename_i ad hev
          rw [hev] at hp
          obtain ⟨v', k1, k2, k3⟩ := S.rel.rd1 hv hp
          obtain ⟨l', q1, q2⟩ := res_sound S g hg1 hg2 rv rs' vs h1 hvs
          refine ⟨v' :: l', ?_, .cons k3 q2⟩
          rw [List.mapM_cons]
          simp only [Sem.run_bind, hg2, k1, asAddr, Sem.run_pure, Result.andThen_ok, loadVar, run_isAgg ha, Bool.false_eq_true, if_false, run_load, k2, q1]
        · simp at hv
      · simp at h2
    · rename_i n ha hn
      simp only [Option.map_eq_some_iff] at h1
      obtain ⟨rs', h1, rfl⟩ := h1
      simp only [evAll, evRes] at h2
      split at h2
      · rename_i v vs hv hvs
        obtain rfl := Option.some.inj h2
        split at hv
        · rename_i ad hev
          simp only [Option.map_eq_some_iff] at hv
          obtain ⟨cs, hcs, rfl⟩ := hv
          rw [hev] at hp
          obtain ⟨bx, hb, hsp, hle, rfl⟩ := rdN_some hcs
          obtain ⟨_, hx'⟩ := hp.ptrAt (by rw [(S.rel.box _ bx hb).gen]; exact hsp)
          obtain ⟨cl, k1, k2, k3⟩ := S.rel.cellsAt hb ad.off n hle
          obtain ⟨l', q1, q2⟩ := res_sound S g hg1 hg2 rv rs' vs h1 hvs
          refine ⟨.agg cl.toArray :: l', ?_, .cons k3.agg q2⟩
          have hld := run_loadCells_list (P := P) w ⟨(ρ ad.block).blk, (ρ ad.block).base + ad.off, none⟩ cl (fun j u hj => by rw [Addr.add_lit]; exact k2 j u hj)
          rw [k1] at hld
          rw [List.mapM_cons]
          simp only [Sem.run_bind, hg2, hx', asAddr, Sem.run_pure, Result.andThen_ok, loadVar, run_isAgg ha, if_true, run_sizeOf hn, hld, q1]
        · simp at hv
      · simp at h2
    · simp at h1

theorem pack_sound {N : Nat} {ρ : Nat → RB} {h : Array Obj} {l l' : List Value} (r : LRel N ρ h l l') : VRel N ρ h (packRes l) (if h : l'.toArray.size = 1 then l'.toArray[0] else .tuple l'.toArray) := by
  match l, l', r with
  | [], l', r =>
    have : l' = [] := List.eq_nil_of_length_eq_zero r.1.symm
    subst this
    simp only [packRes, List.size_toArray, List.length_nil]
    exact .tuple #[] #[] rfl fun i v v' h _ => by simp at h
  | [v], l', r =>
    obtain ⟨v', rfl⟩ : ∃ v', l' = [v'] := List.length_eq_one_iff.1 r.1.symm
    simp only [packRes, List.size_toArray, List.length_singleton, dite_true]
    exact r.2 0 v v' rfl rfl
  | v :: u :: rest, l', r =>
    have hl := r.1
    have : ¬ l'.toArray.size = 1 := by simp at hl ⊢; omega
    rw [dif_neg this]
    exact .tuple _ _ (by simpa using hl) fun i x x' h1 h2 => r.2 i x x' (by simpa using h1) (by simpa using h2)

theorem runOps_floor (hf : ∀ f fl args H v H', T f fl args H = some (v, H') → FloorOK fl H H') : ∀ (rs : List ROp) (st st' : St), runOps P T fl rs st = some st' → FloorOK fl st.heap st'.heap
  | [], st, st', h => by simp only [runOps, Option.some.injEq] at h; subst h; exact .refl _ _
  | r :: rs, st, st', h => by
    simp only [runOps] at h
    split at h
    · rename_i s hs
      refine FloorOK.trans ?_ (runOps_floor hf rs s st' h)
      unfold ROp.step at hs
      split at hs
      · split at hs
        · rename_i v K hk
          obtain rfl := Option.some.inj hs
          exact step_floor hf hk
        · simp at hs
      · obtain rfl := Option.some.inj hs; exact .refl _ _
    · simp at h

theorem splitRun_floor (hf : ∀ f fl args H v H', T f fl args H = some (v, H') → FloorOK fl H H') {idx : Nat} {rnd : Value → Heap → Option (Ex × Heap)} (hr : ∀ v H ex H', rnd v H = some (ex, H') → FloorOK fl H H') {asep ad asave : Addr} :
    ∀ (k : Nat) (H : Heap) (ex : Ex) (H' : Heap), splitRun T fl idx rnd asep ad asave k H = some (ex, H') → FloorOK fl H H'
  | 0, H, ex, H', h => by simp [splitRun] at h
  | k + 1, H, ex, H', h => by
    simp only [splitRun] at h
    split at h
    case h_2 => simp at h
    split at h
    case h_2 => simp at h
    rename_i i H1 hi
    refine (hf _ _ _ _ _ _ hi).trans ?_
    split at h
    case h_2 => simp at h
    split at h
    · exact hr _ _ _ _ h
    split at h
    case isFalse => simp at h
    split at h
    · rename_i H2 h2
      refine (hr _ _ _ _ h2).trans ?_
      split at h
      case h_2 => simp at h
      split at h
      case isFalse => simp at h
      split at h
      case h_2 => simp at h
      rename_i H3 h3
      obtain ⟨b, hb, _, _, hfl, _, _, rfl⟩ := wrN_some h3
      exact (FloorOK.set H2 hfl _).trans (splitRun_floor hf hr k _ _ _ h)
    · exact hr _ _ _ _ h

theorem run_floor (hf : ∀ f fl args H v H', T f fl args H = some (v, H') → FloorOK fl H H') (k : Nat) : ∀ (lc : LC) (st : St) (ex : Ex) (st' : St), lc.run P T fl k st = some (ex, st') → FloorOK fl st.heap st'.heap := by
  intro lc
  induction lc with
  | skip => intro st ex st' h; simp only [LC.run, Option.some.injEq, Prod.mk.injEq] at h; obtain ⟨_, rfl⟩ := h; exact .refl _ _
  | ret => intro st ex st' h; simp only [LC.run, Option.some.injEq, Prod.mk.injEq] at h; obtain ⟨_, rfl⟩ := h; exact .refl _ _
  | exit id => intro st ex st' h; simp only [LC.run, Option.some.injEq, Prod.mk.injEq] at h; obtain ⟨_, rfl⟩ := h; exact .refl _ _
  | region ops =>
    intro st ex st' h
    simp only [LC.run, Option.map_eq_some_iff, Prod.mk.injEq] at h
    obtain ⟨s, hs, _, rfl⟩ := h
    exact runOps_floor hf ops st s hs
  | seq a b iha ihb =>
    intro st ex st' h
    simp only [LC.run] at h
    split at h
    · rename_i s hs
      exact (iha st _ s hs).trans (ihb s ex st' h)
    · exact iha st ex st' h
  | cond c a b iha ihb =>
    intro st ex st' h
    simp only [LC.run] at h
    split at h
    · split at h
      · exact iha st ex st' h
      · exact ihb st ex st' h
    · simp at h
  | block id b ih =>
    intro st ex st' h
    simp only [LC.run] at h
    split at h
    · rename_i id' s hs
      split at h <;> (simp only [Option.some.injEq, Prod.mk.injEq] at h; obtain ⟨_, rfl⟩ := h; exact ih st _ s hs)
    · exact ih st ex st' h
  | loop b ih =>
    intro st ex st' h
    simp only [LC.run] at h
    have key : ∀ (n : Nat) (st : St), iter (b.run P T fl k) n st = some (ex, st') → FloorOK fl st.heap st'.heap := by
      intro n
      induction n with
      | zero => intro st h; simp [iter] at h
      | succ n ihn =>
        intro st h
        simp only [iter] at h
        split at h
        · rename_i s hs
          exact (ih st _ s hs).trans (ihn s h)
        · exact ih st ex st' h
    exact key k st h
  | regionD ops prs =>
    intro st ex st' h
    simp only [LC.run] at h
    split at h
    · rename_i s hs
      split at h
      · simp only [Option.some.injEq, Prod.mk.injEq] at h
        obtain ⟨_, rfl⟩ := h
        exact runOps_floor hf ops st _ hs
      · simp at h
    · simp at h
  | split kf idx g t x y ihx ihy =>
    intro st ex st' h
    simp only [LC.run] at h
    split at h
    case h_2 => simp at h
    split at h
    case isFalse => simp at h
    split at h
    case h_2 => simp at h
    split at h
    case isFalse => simp at h
    simp only [Option.map_eq_some_iff] at h
    obtain ⟨⟨ex1, H'⟩, hrun, heq⟩ := h
    simp only [Prod.mk.injEq] at heq
    obtain ⟨_, rfl⟩ := heq
    refine splitRun_floor hf (fun v H ex H' hr => ?_) k _ _ _ hrun
    split at hr
    case h_2 => simp at hr
    rename_i s1 hs1
    split at hr
    case h_2 => simp at hr
    rename_i ex3 s2 hs2
    simp only [Option.some.injEq, Prod.mk.injEq] at hr
    obtain ⟨_, rfl⟩ := hr
    exact (ihx ⟨_, H⟩ _ s1 hs1).trans (ihy s1 _ s2 hs2)

theorem Valid.floor (hT : Valid P w0 T) : ∀ f fl args H v H', T f fl args H = some (v, H') → FloorOK fl H H' := fun f fl args H v H' h => (hT f fl args H v H' h).2.1

theorem leaves_sound {fn : Func} {st : St} {l : List Value} {rl : List LRes} (hrl : cRes P fn.results.toList = some rl) {a : Act} {ρ ρ0 : Nat → RB} {N0 : Nat} {h0 : Array Obj} (hw0 : w0.heap.size ≤ h0.size) (hl : evAll st rl = some l) :
    ∀ (rs : List Nat) (w : World), rs.Nodup → Rel w0 ρ st.heap w → ERel st.heap.length ρ w.heap st.env a → Ext N0 ρ0 h0 st.heap.length ρ w.heap → (∀ r ∈ rs, h0.size ≤ r ∧ w.heap[r]? = some (.deferred (some []))) →
    LeavesInM (FW none) 0 P fn a.tmps (fun e w' => ∃ v' ρ', e = .returned v' ∧ VRel st.heap.length ρ' w'.heap (packRes l) v' ∧ Rel w0 ρ' st.heap w' ∧ Ext N0 ρ0 h0 st.heap.length ρ' w'.heap) (rs.map fun r => ({ target := .collected r, args := #[] } : Deferred)) .returning w
  | [], w, hnd, R, E, X, hrs => by
    obtain ⟨g, hg1, hg2, hgr⟩ : ∃ g : ResultVar → Sem Value, (∀ t, (g (.tmp t)).run P w = .ok (a.tmps.getD t undef) w) ∧
        (∀ b t, (g (.cell b t)).run P w = ((asAddr (a.tmps.getD b undef)).run P w).andThen fun x w' => (loadVar t x).run P w') ∧
        results fn a.tmps = (do let vs ← fn.results.mapM g; pure (if h : vs.size = 1 then vs[0] else .tuple vs)) :=
      ⟨_, fun t => rfl, fun b t => by rw [Sem.run_bind], rfl⟩
    have S : SRel w0 ρ a.tmps.size 0 st { a with defers := [] } w := ⟨R, E, rfl, .nil _ _, Nat.zero_le _⟩
    obtain ⟨l', q1, q2⟩ := res_sound (P := P) S g hg1 hg2 fn.results.toList rl l hrl hl
    have hres : (results fn a.tmps).run P w = .ok (if h : l'.toArray.size = 1 then l'.toArray[0] else .tuple l'.toArray) w := by
      rw [hgr, Array.mapM_eq_mapM_toList]
      simp only [Sem.run_bind, Sem.run_map, q1, Result.andThen_ok, Sem.run_pure]
    exact ⟨_, hres, _, ρ, rfl, pack_sound q2, R, X⟩
  | r :: rs, w, hnd, R, E, X, hrs => by
    obtain ⟨hr1, hr2⟩ := hrs r List.mem_cons_self
    have hnd' := List.nodup_cons.1 hnd
    refine ⟨by simp, .inl ⟨r, _, rfl, run_takeDeferred hr2, ?_⟩⟩
    obtain ⟨R', X'⟩ := R.putObj (l := r) (by omega) (lt_of_some hr2) (noCells_deferred hr2) (.deferred none)
    refine leaves_sound hrl hw0 hl rs _ hnd'.2 R' (fun t => (E t).monoL X' (noCells_deferred hr2)) (X.thenL X' hr1) fun k hk => ⟨(hrs k (List.mem_cons_of_mem _ hk)).1, ?_⟩
    rw [World.putObj_heap_other fun e => hnd'.1 (by rw [← e]; exact hk)]
    exact (hrs k (List.mem_cons_of_mem _ hk)).2

/-- A function's compact text tells what its call does. -/
theorem fn_sound (hT : Valid P w0 T) {pf : FuncId → Bool} (hp : PureOK T pf) (hsp : ∀ kf idx, splitOf P = some (kf, idx) → SplitSound P w0 kf idx) {f : FuncId} {fn : Func} {F : LFn} (hf : P.funcs[f]? = some fn) (hF : compF P pf fn = some F) (k : Nat) : ValidAt P w0 (fun fl args H => levFn P T fl k F args H) f := by
  intro fl args H v H' h
  unfold compF at hF
  split at hF
  case h_2 => simp at hF
  rename_i c hbody
  split at hF
  case isTrue => simp at hF
  rename_i hname
  split at hF
  case h_2 => simp at hF
  rename_i lc rs hlc hrs
  obtain rfl := Option.some.inj hF
  unfold levFn at h
  dsimp only at h
  split at h
  case isFalse => simp at h
  rename_i hlen
  have hmain : ∃ ex st l, (ex = .normal ∨ ex = .ret) ∧ lc.run P T fl k ⟨initEnv args, H⟩ = some (ex, st) ∧ evAll st rs = some l ∧ v = packRes l ∧ H' = st.heap := by
    split at h
    · rename_i st hst
      simp only [Option.map_eq_some_iff, Prod.mk.injEq] at h
      obtain ⟨l, h1, rfl, rfl⟩ := h
      exact ⟨.normal, st, l, .inl rfl, hst, h1, rfl, rfl⟩
    · rename_i st hst
      simp only [Option.map_eq_some_iff, Prod.mk.injEq] at h
      obtain ⟨l, h1, rfl, rfl⟩ := h
      exact ⟨.ret, st, l, .inr rfl, hst, h1, rfl, rfl⟩
    · simp at h
  obtain ⟨ex, st, l, hex, hrun, hl, rfl, rfl⟩ := hmain
  refine ⟨⟨fn, hf, by simpa using hname, by simp [hbody]⟩, run_floor hT.floor k lc _ ex st hrun, fun ρ w args' R hargs => ?_⟩
  refine (callsIn_FW (r := none) (n := 0)).1 (callsIn_of_wp_marks hf hbody trivial ?_ rfl)
  have hal := hargs.1
  simp only [Array.length_toList] at hal
  have S : SRel w0 ρ fn.ntmps w.heap.size ⟨initEnv args, H⟩ { tmps := args' ++ Array.replicate (fn.ntmps - args'.size) undef, defers := [] } w := by
    refine ⟨R, fun t => ?_, by simp; omega, .nil _ _, Nat.le_refl _⟩
    simp only [initEnv]
    by_cases ht : t < args.length
    · have e1 : args.getD t undef = args[t] := by simp [ht]
      have ht' : t < args'.size := by omega
      have e2 : (args' ++ Array.replicate (fn.ntmps - args'.size) undef).getD t undef = args'[t] := by
        rw [Array.getD_eq_getD_getElem?, Array.getElem?_append_left ht', Array.getElem?_eq_getElem ht']
        rfl
      rw [e1, e2]
      exact hargs.2 t _ _ (List.getElem?_eq_getElem ht) (by simp [ht'])
    · have e1 : args.getD t undef = undef := by simp [List.getD_eq_getElem?_getD, List.getElem?_eq_none (Nat.le_of_not_lt ht)]
      have e2 : (args' ++ Array.replicate (fn.ntmps - args'.size) undef).getD t undef = undef := by
        rw [Array.getD_eq_getD_getElem?, Array.getElem?_append_right (by omega)]
        rw [Array.getElem?_replicate]
        split <;> rfl
      rw [e1, e2]
      exact .undef _ _ _
  refine code_sound hT hp hsp k c true none (fun _ => rfl) _ lc hlc ⟨initEnv args, H⟩ ex st _ w ρ _ hrun S fun a' w' ρ' S' X => ?_
  have hfin : LeavesInM (FW none) 0 P fn a'.tmps (fun e w' => ∃ v' ρ', e = .returned v' ∧ VRel st.heap.length ρ' w'.heap (packRes l) v' ∧ Rel w0 ρ' st.heap w' ∧ Ext H.length ρ w.heap st.heap.length ρ' w'.heap) a'.defers .returning w' := by
    obtain ⟨rs, hds, hnd, hrs'⟩ := S'.defers
    rw [hds]
    exact leaves_sound hrs R.below.size hl rs w' hnd S'.rel S'.env X hrs'
  rcases hex with rfl | rfl
  · exact hfin
  · exact hfin

end
end Go.Lev


set_option linter.unusedVariables false
set_option linter.unusedSimpArgs false
namespace Go.Lev
open Go Go.RowKit

theorem shrink {w0 w w' : World} {ρ ρ' : Nat → RB} {H H' : Heap} (R : Rel w0 ρ H w) (R' : Rel w0 ρ' H' w') (x : Ext H.length ρ w.heap H'.length ρ' w'.heap) (hk : ∀ (id : Nat) (b : Box), H[id]? = some b → H'[id]? = some b) :
    Rel w0 ρ H w' ∧ Ext H.length ρ w.heap H.length ρ w'.heap ∧ ∀ id, id < H.length → ρ' id = ρ id := by
  have hρ : ∀ id, id < H.length → ρ' id = ρ id := fun id hid => by
    have hb := List.getElem?_eq_getElem hid
    refine (x.gen id hid).2 ?_
    rw [(R'.box id _ (hk id _ hb)).gen, (R.box id _ hb).gen]
  refine ⟨⟨R'.below, fun id b hb => ?_, fun i j b c hi hj hij hr => ?_⟩, ?_, hρ⟩
  · have hid := (List.getElem?_eq_some_iff.1 hb).1
    have h1 := R.box id b hb
    have h2 := R'.box id b (hk id b hb)
    refine ⟨h1.gen, h1.row, h1.fresh, ?_⟩
    obtain ⟨cs, e, fr, q1, q2, q3, q4⟩ := h2.cells
    obtain ⟨cs0, e0, fr0, p1, p2, p3, p4⟩ := h1.cells
    rw [hρ id hid] at q1 q3 q4
    refine ⟨cs, e, fr, q1, q2, q3, fun i v hv => ?_⟩
    obtain ⟨v', k1, k2⟩ := q4 i v hv
    obtain ⟨v0, j1, j2⟩ := p4 i v hv
    exact ⟨v', k1, j2.transfer x.len hρ k2⟩
  · exact R.sep i j b c hi hj hij hr
  · exact ⟨Nat.le_refl _, fun _ _ => ⟨Nat.le_refl _, fun _ => rfl⟩, fun id hid => .inl ⟨hid, rfl⟩, x.size, x.frame⟩

theorem VRel.grow {N N' : Nat} {σ σ' ρ' : Nat → RB} {h : Array Obj} {v a : Value} (r : VRel N σ h v a) (s : VRel N' ρ' h v a) (hσ : ∀ j, j < N → σ' j = σ j) {id : Nat} (hid : id < N') (hb : (σ' N).blk = (ρ' id).blk) : VRel (N + 1) σ' h v a := by
  induction r with
  | bool x => exact .bool _
  | int k n => exact .int _ _
  | float k n => exact .float _ _
  | string x => exact .string _
  | nilIface => exact .nilIface
  | nilFunc => exact .nilFunc
  | ptrNil => exact .ptrNil
  | ptr j off g a hj hg ha =>
    refine .ptr j off g a (by omega) ?_ ?_ <;> rw [hσ j hj] <;> assumption
  | sliceNil => exact .sliceNil
  | slice j off g n c c' a hj hg hn ha =>
    refine .slice j off g n c c' a (by omega) ?_ hn ?_ <;> rw [hσ j hj] <;> assumption
  | agg cs cs' hs hc ih =>
    cases s with
    | agg _ _ hs' hc' => exact .agg cs cs' hs fun i v v' h1 h2 => ih i v v' h1 h2 (hc' i v v' h1 h2)
  | tuple cs cs' hs hc ih =>
    cases s with
    | tuple _ _ hs' hc' => exact .tuple cs cs' hs fun i v v' h1 h2 => ih i v v' h1 h2 (hc' i v v' h1 h2)
  | iface t v v' hv ih =>
    cases s with
    | iface _ _ _ hv' => exact .iface t v v' (ih hv')
  | func f fs fs' cs cs' hs hf hs' hc ih1 ih2 =>
    cases s with
    | func _ _ _ _ _ gs gf gs' gc => exact .func f fs fs' cs cs' hs (fun i v v' h1 h2 => ih1 i v v' h1 h2 (gf i v v' h1 h2)) hs' fun i v v' h1 h2 => ih2 i v v' h1 h2 (gc i v v' h1 h2)
  | marker cs cs' k n c e fr hk hn hf hh hs hc ih =>
    cases s with
    | marker _ cs'' _ _ _ e' fr' hk' hn' hf' hh' hs' hc' =>
      rw [hh] at hh'
      injection hh' with hh'
      injection hh' with q1 q2 q3
      subst q1
      refine .marker cs cs' k n c e fr hk hn (fun j hj => ?_) hh hs fun i v v' h1 h2 => ih i v v' h1 h2 (hc' i v v' h1 h2)
      by_cases hjn : j = N
      · subst hjn; rw [hb]; exact hf' id hid
      · rw [hσ j (by omega)]; exact hf j (by omega)

/-- A box of another telling is taken over. -/
theorem adopt {w0 w : World} {σ ρ' : Nat → RB} {A H' : Heap} (R : Rel w0 σ A w) (R' : Rel w0 ρ' H' w) {id off n : Nat} {b : Box} (hb : H'[id]? = some b) (hro : b.ro = false) (hfree : ∀ j, j < A.length → (σ j).blk ≠ (ρ' id).blk)
    (hle : off + n ≤ b.cells.length) (hsc : ((b.cells.drop off).take n).all isSc0 = true)
    (hA : ∀ (j : Nat) (c : Box), A[j]? = some c → c.cells.all isSc0 = true ∨ (H'[j]? = some c ∧ σ j = ρ' j)) :
    ∃ σ', σ' A.length = ⟨(ρ' id).blk, (ρ' id).base + off, (ρ' id).size, 0, b.row⟩ ∧ (∀ j, j < A.length → σ' j = σ j) ∧ Rel w0 σ' (A ++ [{ cells := (b.cells.drop off).take n, gen := 0, row := b.row }]) w := by
  obtain ⟨σ', hnew, hold⟩ : ∃ σ' : Nat → RB, σ' A.length = ⟨(ρ' id).blk, (ρ' id).base + off, (ρ' id).size, 0, b.row⟩ ∧ ∀ j, j < A.length → σ' j = σ j := by
    refine ⟨fun j => if j = A.length then ⟨(ρ' id).blk, (ρ' id).base + off, (ρ' id).size, 0, b.row⟩ else σ j, by simp, fun j hj => ?_⟩
    have : ¬ j = A.length := by omega
    simp [this]
  refine ⟨σ', hnew, hold, ?_⟩
  have hB := R'.box id b hb
  have hid := (List.getElem?_eq_some_iff.1 hb).1
  have key : ∀ j d, (A ++ [{ cells := (b.cells.drop off).take n, gen := 0, row := b.row }] : Heap)[j]? = some d → (j < A.length ∧ A[j]? = some d) ∨ (j = A.length ∧ d = { cells := (b.cells.drop off).take n, gen := 0, row := b.row }) := fun j d hj => by
    by_cases h : j < A.length
    · rw [List.getElem?_append_left h] at hj
      exact .inl ⟨h, hj⟩
    · rw [List.getElem?_append_right (by omega)] at hj
      have hj0 : j - A.length = 0 := by
        have := (List.getElem?_eq_some_iff.1 hj).1
        simp at this
        omega
      rw [hj0] at hj
      simp at hj
      exact .inr ⟨by omega, hj.symm⟩
  refine ⟨R.below, fun j c hj => ?_, fun i j c d hi hj hij hr => ?_⟩
  · simp only [List.length_append, List.length_singleton]
    rcases key j c hj with ⟨h1, h2⟩ | ⟨rfl, rfl⟩
    · have hC := R.box j c h2
      obtain ⟨cs, e, fr, q1, q2, q3, q4⟩ := hC.cells
      refine ⟨by rw [hold j h1]; exact hC.gen, by rw [hold j h1]; exact hC.row, fun k => by rw [hold j h1]; exact hC.fresh k, cs, e, fr, by rw [hold j h1]; exact q1, q2, by rw [hold j h1]; exact q3, fun i v hv => ?_⟩
      obtain ⟨v', k1, k2⟩ := q4 i v hv
      refine ⟨v', by rw [hold j h1]; exact k1, ?_⟩
      rcases hA j c h2 with hs | ⟨hs, he⟩
      · have hv0 : isSc0 v = true := List.all_eq_true.1 hs _ (List.mem_of_getElem? hv)
        rw [k2.sc0 hv0]
        exact .ofSc0 hv0
      · obtain ⟨cs2, e2, fr2, p1, p2, p3, p4⟩ := (R'.box j c hs).cells
        rw [← he, q1] at p1
        injection p1 with p1
        injection p1 with p1
        subst p1
        obtain ⟨v2, j1, j2⟩ := p4 i v hv
        rw [← he, k1] at j1
        obtain rfl := Option.some.inj j1
        exact k2.grow j2 hold hid (by rw [hnew])
    · obtain ⟨cs, e, fr, q1, q2, q3, q4⟩ := hB.cells
      refine ⟨by rw [hnew], by rw [hnew], fun _ => by rw [hnew]; exact hB.fresh hro, cs, e, fr, by rw [hnew]; exact q1, fun _ => q2 hro, by rw [hnew]; exact q3, fun i v hv => ?_⟩
      have hv0 : isSc0 v = true := List.all_eq_true.1 hsc _ (List.mem_of_getElem? hv)
      rw [List.getElem?_take] at hv
      split at hv
      · rw [List.getElem?_drop] at hv
        obtain ⟨v', k1, k2⟩ := q4 _ v hv
        refine ⟨v', by rw [hnew]; simpa [Nat.add_assoc] using k1, ?_⟩
        rw [k2.sc0 hv0]
        exact .ofSc0 hv0
      · simp at hv
  · rcases key i c hi with ⟨h1, h2⟩ | ⟨rfl, rfl⟩ <;> rcases key j d hj with ⟨h3, h4⟩ | ⟨rfl, rfl⟩
    · rw [hold i h1, hold j h3]; exact R.sep i j c d h2 h4 hij hr
    · rw [hold i h1, hnew]; exact hfree i h1
    · rw [hold j h3, hnew]; exact fun h => hfree j h3 h.symm
    · omega

def gcOne (N : Nat) (H' : Heap) (acc : Heap) (used : List Nat) (v : Value) : Option (Value × Heap × List Nat) :=
  if isSc v then some (v, acc, used) else
  match v with
  | .slice (some a) n c =>
    if used.contains a.block || decide (a.block < N) then none else
    match H'[a.block]?, rdN H' a (n * c) with
    | some b, some cells => if cells.all isSc0 && b.row == c && !b.ro then some (.slice (some ⟨acc.length, 0, some 0⟩) n c, acc ++ [{ cells := cells, gen := 0, row := c }], a.block :: used) else none
    | _, _ => none
  | _ => none

def gcL (N : Nat) (H' : Heap) : Heap → List Nat → List Value → Option (List Value × Heap)
  | acc, _, [] => some ([], acc)
  | acc, used, v :: l => match gcOne N H' acc used v with
    | some (v', acc', used') => match gcL N H' acc' used' l with
      | some (l', acc'') => some (v' :: l', acc'')
      | none => none
    | none => none

def gcRes (H H' : Heap) (v : Value) : Option (Value × Heap) :=
  match v with
  | .tuple vs => match gcL H.length H' H [] vs.toList with
    | some (l, acc) => some (.tuple l.toArray, acc)
    | none => none
  | v => match gcOne H.length H' H [] v with
    | some (v, acc, _) => some (v, acc)
    | none => none

/-- What has been taken over so far. -/
structure Kept (w0 : World) (H : Heap) (ρ' : Nat → RB) (H' : Heap) (w' : World) (acc : Heap) (used : List Nat) (σ : Nat → RB) : Prop where
  rel : Rel w0 σ acc w'
  pre : H.length ≤ acc.length ∧ ∀ (id : Nat) (b : Box), H[id]? = some b → acc[id]? = some b
  old : ∀ id, id < H.length → σ id = ρ' id
  new : ∀ j, H.length ≤ j → j < acc.length → (∃ id, id ∈ used ∧ H.length ≤ id ∧ id < H'.length ∧ (σ j).blk = (ρ' id).blk) ∧ ∀ c, acc[j]? = some c → c.cells.all isSc0 = true

theorem gcOne_sound {w0 w' : World} {H H' acc acc' : Heap} {ρ' σ : Nat → RB} {used used' : List Nat} {v v1 a : Value} (R' : Rel w0 ρ' H' w') (hsub : ∀ (id : Nat) (b : Box), H[id]? = some b → H'[id]? = some b)
    (K : Kept w0 H ρ' H' w' acc used σ) (h : gcOne H.length H' acc used v = some (v1, acc', used')) (hv : VRel H'.length ρ' w'.heap v a) :
    ∃ σ', Kept w0 H ρ' H' w' acc' used' σ' ∧ VRel acc'.length σ' w'.heap v1 a ∧ (isSc v1 = true ∨ ∃ ad n c, v1 = .slice (some ad) n c) ∧ acc.length ≤ acc'.length ∧ ∀ j, j < acc.length → σ' j = σ j := by
  unfold gcOne at h
  split at h
  · rename_i hs
    simp only [Option.some.injEq, Prod.mk.injEq] at h
    obtain ⟨rfl, rfl, rfl⟩ := h
    refine ⟨σ, K, ?_, .inl hs, Nat.le_refl _, fun _ _ => rfl⟩
    rw [hv.sc hs]
    exact .ofSc hs
  · split at h
    · rename_i ad n c hnsc
      split at h
      · simp at h
      · rename_i hn
        simp only [Bool.or_eq_true, decide_eq_true_eq, List.contains_eq_mem, not_or] at hn
        split at h
        · rename_i b cells hb hrd
          split at h
          · rename_i hcond
            simp only [Bool.and_eq_true, beq_iff_eq, Bool.not_eq_true'] at hcond
            obtain ⟨⟨hsc, hrow⟩, hro⟩ := hcond
            simp only [Option.some.injEq, Prod.mk.injEq] at h
            obtain ⟨rfl, rfl, rfl⟩ := h
            obtain ⟨b', hb', hsp, hle, rfl⟩ := rdN_some hrd
            rw [hb] at hb'
            obtain rfl := Option.some.inj hb'
            have hid := (List.getElem?_eq_some_iff.1 hb).1
            have hfree : ∀ j, j < acc.length → (σ j).blk ≠ (ρ' ad.block).blk := fun j hj => by
              have hjb : ∃ c, acc[j]? = some c := ⟨_, List.getElem?_eq_getElem hj⟩
              by_cases hjn : j < H.length
              · rw [K.old j hjn]
                have h1 := hsub j _ (List.getElem?_eq_getElem hjn)
                exact R'.sep j ad.block _ b h1 hb (by omega) (.inr hro)
              · obtain ⟨⟨id, q1, q2, q3, q4⟩, _⟩ := K.new j (by omega) hj
                rw [q4]
                have hne : id ≠ ad.block := fun e => hn.1 (by subst e; simpa using q1)
                exact R'.sep id ad.block _ b (List.getElem?_eq_getElem q3) hb hne (.inr hro)
            obtain ⟨σ', s1, s2, s3⟩ := adopt K.rel R' hb hro hfree hle hsc (fun j c hj => by
              by_cases hjn : j < H.length
              · have h1 := K.pre.2 j _ (List.getElem?_eq_getElem hjn)
                rw [hj] at h1
                obtain rfl := Option.some.inj h1
                exact .inr ⟨hsub j _ (List.getElem?_eq_getElem hjn), K.old j hjn⟩
              · exact .inl ((K.new j (by omega) (List.getElem?_eq_some_iff.1 hj).1).2 c hj))
            rw [hrow] at s1 s3
            refine ⟨σ', ⟨s3, ⟨by have := K.pre.1; simp; omega, fun id bx hbx => ?_⟩, fun id hid' => ?_, fun j hj1 hj2 => ?_⟩, ?_, .inr ⟨_, _, _, rfl⟩, by simp, s2⟩
            · rw [List.getElem?_append_left (by have := (List.getElem?_eq_some_iff.1 hbx).1; have := K.pre.1; omega)]
              exact K.pre.2 id bx hbx
            · rw [s2 id (by have := K.pre.1; omega)]; exact K.old id hid'
            · simp only [List.length_append, List.length_singleton] at hj2
              by_cases hj3 : j < acc.length
              · obtain ⟨⟨id, q1, q2, q3, q4⟩, q5⟩ := K.new j hj1 hj3
                refine ⟨⟨id, List.mem_cons_of_mem _ q1, q2, q3, by rw [s2 j hj3]; exact q4⟩, fun c hc => q5 c ?_⟩
                rw [List.getElem?_append_left hj3] at hc
                exact hc
              · have hje : j = acc.length := by omega
                subst hje
                refine ⟨⟨ad.block, by simp, by omega, hid, by rw [s1]⟩, fun c hc => ?_⟩
                simp at hc
                subst hc
                exact hsc
            · cases hv with
              | slice id off g _ _ c' ra hid' hg hnc ha =>
                simp only [Option.some.injEq] at hsp
                have hgen : g = (ρ' id).gen := by rw [(R'.box id b hb).gen]; exact hsp
                obtain ⟨a1, a2⟩ := ha hgen
                refine .slice _ _ _ _ _ _ _ (by simp) (by omega) hnc fun _ => ⟨fun hp => by rw [s1, a1 hp]; rfl, fun hr hr0 hp => ?_⟩
                rw [s1]
                simp only
                have := a2 (by rw [(R'.box id b hb).row]; exact hrow) hr0 hp
                omega
          · simp at h
        · simp at h
    · simp at h

theorem VRel.keep {N N' : Nat} {σ σ' : Nat → RB} {h : Array Obj} {v a : Value} (r : VRel N σ h v a) (hz : isSc v = true ∨ ∃ ad n c, v = .slice (some ad) n c) (hN : N ≤ N') (hσ : ∀ j, j < N → σ' j = σ j) : VRel N' σ' h v a := by
  rcases hz with hz | ⟨ad, n, c, rfl⟩
  · rw [r.sc hz]; exact .ofSc hz
  · cases r with
    | slice id off g _ _ c' ra hid hg hnc ha =>
      refine .slice id off g n c c' ra (by omega) ?_ hnc ?_ <;> rw [hσ id hid] <;> assumption

theorem gcL_sound {w0 w' : World} {H H' : Heap} {ρ' : Nat → RB} (R' : Rel w0 ρ' H' w') (hsub : ∀ (id : Nat) (b : Box), H[id]? = some b → H'[id]? = some b) : ∀ (l l1 l' : List Value) (acc acc' : Heap) (used : List Nat) (σ : Nat → RB),
    Kept w0 H ρ' H' w' acc used σ → gcL H.length H' acc used l = some (l1, acc') → LRel H'.length ρ' w'.heap l l' →
    ∃ σ' used', Kept w0 H ρ' H' w' acc' used' σ' ∧ LRel acc'.length σ' w'.heap l1 l' ∧ acc.length ≤ acc'.length ∧ ∀ j, j < acc.length → σ' j = σ j
  | [], l1, l', acc, acc', used, σ, K, h, hl => by
    simp only [gcL, Option.some.injEq, Prod.mk.injEq] at h
    obtain ⟨rfl, rfl⟩ := h
    have : l' = [] := List.eq_nil_of_length_eq_zero hl.1.symm
    subst this
    exact ⟨σ, used, K, .nil _ _ _, Nat.le_refl _, fun _ _ => rfl⟩
  | v :: l, l1, l', acc, acc', used, σ, K, h, hl => by
    match l', hl with
    | [], hl => exact absurd hl.1 (by simp)
    | a :: l', hl =>
      simp only [gcL] at h
      split at h
      · rename_i v1 acc1 used1 h1
        split at h
        · rename_i l2 acc2 h2
          simp only [Option.some.injEq, Prod.mk.injEq] at h
          obtain ⟨rfl, rfl⟩ := h
          obtain ⟨σ1, K1, V1, Z1, L1, S1⟩ := gcOne_sound R' hsub K h1 (hl.2 0 v a rfl rfl)
          obtain ⟨σ2, used2, K2, V2, L2, S2⟩ := gcL_sound R' hsub l l2 l' acc1 acc2 used1 σ1 K1 h2 ⟨by simpa using hl.1, fun i x y hx hy => hl.2 (i + 1) x y (by simpa using hx) (by simpa using hy)⟩
          refine ⟨σ2, used2, K2, .cons ?_ V2, Nat.le_trans L1 L2, fun j hj => by rw [S2 j (by omega), S1 j hj]⟩
          exact V1.keep Z1 L2 S2
        · simp at h
      · simp at h

/-- A function of which nothing stays but what it hands back. -/
def pureFn (F : Nat → List Value → Heap → Option (Value × Heap)) : Nat → List Value → Heap → Option (Value × Heap) := fun _ args H =>
  match F H.length args H with
  | some (v, H') => gcRes H H' v
  | none => none

theorem pureFn_valid {P : Program} {w0 : World} {F : Nat → List Value → Heap → Option (Value × Heap)} {f : FuncId} (hF : ValidAt P w0 F f) : ValidAt P w0 (pureFn F) f := by
  intro fl args H v1 acc h
  unfold pureFn at h
  split at h
  case h_2 => simp at h
  rename_i v H' hv
  obtain ⟨hok, hfloor, hcalls⟩ := hF H.length args H v H' hv
  have hsub : ∀ (id : Nat) (b : Box), H[id]? = some b → H'[id]? = some b := fun id b hb => hfloor id b (List.getElem?_eq_some_iff.1 hb).1 hb
  have main : ∀ ρ w w' ρ' a, Rel w0 ρ H w → Rel w0 ρ' H' w' → Ext H.length ρ w.heap H'.length ρ' w'.heap → VRel H'.length ρ' w'.heap v a → ∃ σ, VRel acc.length σ w'.heap v1 a ∧ Rel w0 σ acc w' ∧ Ext H.length ρ w.heap acc.length σ w'.heap ∧ FloorOK fl H acc := by
    intro ρ w w' ρ' a R R' x hva
    obtain ⟨R1, X1, hρ⟩ := shrink R R' x hsub
    have K0 : Kept w0 H ρ' H' w' H [] ρ := ⟨R1, ⟨Nat.le_refl _, fun _ _ h => h⟩, fun id hid => (hρ id hid).symm, fun j h1 h2 => by omega⟩
    have fin : ∀ (used : List Nat) (σ : Nat → RB), Kept w0 H ρ' H' w' acc used σ → Rel w0 σ acc w' ∧ Ext H.length ρ w.heap acc.length σ w'.heap ∧ FloorOK fl H acc := fun used σ K => by
      refine ⟨K.rel, ⟨K.pre.1, fun id hid => ?_, fun id hid => ?_, x.size, x.frame⟩, fun id b _ hb => K.pre.2 id b hb⟩
      · rw [K.old id hid, hρ id hid]; exact ⟨Nat.le_refl _, fun _ => rfl⟩
      · by_cases h1 : id < H.length
        · rw [K.old id h1, hρ id h1]; exact .inl ⟨h1, rfl⟩
        · obtain ⟨⟨j, _, q2, q3, q4⟩, _⟩ := K.new id (by omega) hid
          rw [q4]
          rcases x.blk j q3 with ⟨q5, _⟩ | q5
          · omega
          · exact .inr q5
    unfold gcRes at h
    split at h
    · rename_i vs
      split at h
      · rename_i l acc1 hl
        simp only [Option.some.injEq, Prod.mk.injEq] at h
        obtain ⟨rfl, rfl⟩ := h
        cases hva with
        | tuple _ cs' hs hc =>
          obtain ⟨σ, used, K, L, _⟩ := gcL_sound R' hsub vs.toList l cs'.toList H _ [] ρ K0 hl ⟨by simpa using hs, fun i a b h1 h2 => hc i a b (by simpa using h1) (by simpa using h2)⟩
          refine ⟨σ, ?_, fin used σ K⟩
          exact .tuple _ _ (by simpa using L.1) fun i a b h1 h2 => L.2 i a b (by simpa using h1) (by simpa using h2)
      · simp at h
    · split at h
      · rename_i v2 acc1 used hl
        simp only [Option.some.injEq, Prod.mk.injEq] at h
        obtain ⟨rfl, rfl⟩ := h
        obtain ⟨σ, K, V, _⟩ := gcOne_sound R' hsub K0 hl hva
        exact ⟨σ, V, fin used σ K⟩
      · simp at h
  refine ⟨hok, ?_, fun ρ w args' R hargs => ?_⟩
  · -- the memory's head stays
    intro id b _ hb
    have gc1 : ∀ (acc : Heap) (used : List Nat) (v v1 : Value) (acc' : Heap) (used' : List Nat), gcOne H.length H' acc used v = some (v1, acc', used') → ∀ (id : Nat) (b : Box), acc[id]? = some b → acc'[id]? = some b := by
      intro acc used v v1 acc' used' h id b hb
      unfold gcOne at h
      split at h
      · simp only [Option.some.injEq, Prod.mk.injEq] at h; obtain ⟨_, rfl, _⟩ := h; exact hb
      · split at h
        · split at h
          · simp at h
          · split at h
            · split at h
              · simp only [Option.some.injEq, Prod.mk.injEq] at h
                obtain ⟨_, rfl, _⟩ := h
                rw [List.getElem?_append_left (List.getElem?_eq_some_iff.1 hb).1]; exact hb
              · simp at h
            · simp at h
        · simp at h
    have gcl : ∀ (l : List Value) (acc : Heap) (used : List Nat) (l1 : List Value) (acc' : Heap), gcL H.length H' acc used l = some (l1, acc') → ∀ (id : Nat) (b : Box), acc[id]? = some b → acc'[id]? = some b := by
      intro l
      induction l with
      | nil => intro acc used l1 acc' h id b hb; simp only [gcL, Option.some.injEq, Prod.mk.injEq] at h; obtain ⟨_, rfl⟩ := h; exact hb
      | cons v l ih =>
        intro acc used l1 acc' h id b hb
        simp only [gcL] at h
        split at h
        · rename_i v1 acc1 used1 h1
          split at h
          · rename_i l2 acc2 h2
            simp only [Option.some.injEq, Prod.mk.injEq] at h
            obtain ⟨_, rfl⟩ := h
            exact ih _ _ _ _ h2 id b (gc1 _ _ _ _ _ _ h1 id b hb)
          · simp at h
        · simp at h
    unfold gcRes at h
    split at h
    · split at h
      · rename_i l acc1 hl
        simp only [Option.some.injEq, Prod.mk.injEq] at h
        obtain ⟨_, rfl⟩ := h
        exact gcl _ _ _ _ _ hl id b hb
      · simp at h
    · split at h
      · rename_i v2 acc1 used hl
        simp only [Option.some.injEq, Prod.mk.injEq] at h
        obtain ⟨_, rfl⟩ := h
        exact gc1 _ _ _ _ _ _ hl id b hb
      · simp at h
  · refine (hcalls ρ w args' R hargs).mono ?_
    rintro e w' ⟨a, ρ', rfl, hva, R', x⟩
    obtain ⟨σ, q1, q2, q3, _⟩ := main ρ w w' ρ' a R R' x hva
    exact ⟨a, σ, rfl, q1, q2, q3⟩

/-- A row that says less. -/
theorem ValidAt.weaken {P : Program} {w0 : World} {F G : Nat → List Value → Heap → Option (Value × Heap)} {f : FuncId} (hF : ValidAt P w0 F f) (h : ∀ fl args H r, G fl args H = some r → F fl args H = some r) : ValidAt P w0 G f :=
  fun fl args H v H' hg => hF fl args H v H' (h fl args H _ hg)

end Go.Lev

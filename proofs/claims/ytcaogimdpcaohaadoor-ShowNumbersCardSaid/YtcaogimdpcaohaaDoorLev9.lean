/- Slices, builtins; all operations that are no calls. -/
import Derived.Test.YtcaogimdpcaohaaDoorLev8
set_option linter.unusedVariables false
set_option linter.unusedSimpArgs false
namespace Go.Lev
open Go Go.RowKit

section
variable {P : Program} {T : Tab} {fl : Nat} {env : Nat → Value} {H H' : Heap} {w0 w : World} {ρ : Nat → RB} {a : Act} {v : Value}

def okOX : Option Operand → Bool
  | none => true
  | some x => okX x

theorem bnd_some (E : ERel H.length ρ w.heap env a) {d : Nat} {x : Operand} {n : Nat} (hx : okX x = true) (h : bnd env d (some x) = some n) : ∃ k, a.eval x = .int k (n : Int) := by
  have hv := E.ev hx
  simp only [bnd] at h
  split at h
  · rename_i k m hev
    split at h
    · obtain rfl := Option.some.inj h
      rw [hev] at hv
      refine ⟨k, ?_⟩
      rw [int_of hv]
      congr 1
      omega
    · simp at h
  · simp at h

theorem run_sliceBound (k : IntKind) (n y : Nat) (c : BoundsCode) (h : n ≤ y) (w : World) : (Instr.sliceBound (.int k (n : Int)) y c).run P w = .ok n w := by
  have h' : (0 : Int) ≤ n ∧ (n : Int) ≤ y := ⟨by omega, by omega⟩
  simp [Instr.sliceBound, asIntOf, h'.2]

theorem bounds_run (E : ERel H.length ρ w.heap env a) (isS : Bool) {len cap dm l h m : Nat} {lo hi mx : Option Operand} (h1 : okOX lo = true) (h2 : okOX hi = true) (h3 : okOX mx = true) (hl : bnd env 0 lo = some l) (hh : bnd env len hi = some h)
    (hm : bnd env dm mx = some m) (hmx : mx = none → m = dm) (hlh : l ≤ h) (hhm : h ≤ m) (hhc : h ≤ cap) (hmc : mx ≠ none → m ≤ cap) (hmxhi : mx ≠ none → hi ≠ none) :
    (Instr.sliceBounds isS len cap (lo.map a.eval) (hi.map a.eval) (mx.map a.eval)).run P w = .ok (l, h, if mx = none then cap else m) w := by
  cases mx with
  | none =>
    cases hi with
    | none =>
      simp only [bnd, Option.some.injEq] at hh
      subst hh
      cases lo with
      | none =>
        simp only [bnd, Option.some.injEq] at hl
        subst hl
        simp [Instr.sliceBounds]
      | some x =>
        obtain ⟨k, e⟩ := bnd_some E h1 hl
        simp [Instr.sliceBounds, e, run_sliceBound k l _ _ hlh]
    | some y =>
      obtain ⟨k2, e2⟩ := bnd_some E h2 hh
      cases lo with
      | none =>
        simp only [bnd, Option.some.injEq] at hl
        subst hl
        simp [Instr.sliceBounds, e2, run_sliceBound k2 h _ _ hhc]
      | some x =>
        obtain ⟨k, e⟩ := bnd_some E h1 hl
        simp [Instr.sliceBounds, e, e2, run_sliceBound k2 h _ _ hhc, run_sliceBound k l _ _ hlh]
  | some z =>
    obtain ⟨k3, e3⟩ := bnd_some E h3 hm
    cases hi with
    | none => exact absurd rfl (hmxhi (by simp))
    | some y =>
      obtain ⟨k2, e2⟩ := bnd_some E h2 hh
      cases lo with
      | none =>
        simp only [bnd, Option.some.injEq] at hl
        subst hl
        simp [Instr.sliceBounds, e2, e3, run_sliceBound k3 m _ _ (hmc (by simp)), run_sliceBound k2 h _ _ hhm]
      | some x =>
        obtain ⟨k, e⟩ := bnd_some E h1 hl
        simp [Instr.sliceBounds, e, e2, e3, run_sliceBound k3 m _ _ (hmc (by simp)), run_sliceBound k2 h _ _ hhm, run_sliceBound k l _ _ hlh]

theorem slice_res (R : Rel w0 ρ H w) (E : ERel H.length ρ w.heap env a) {t : TypeId} {x : Operand} {lo hi mx : Option Operand} {q : LO} (hx : okX x = true) (h1 : okOX lo = true) (h2 : okOX hi = true) (h3 : okOX mx = true) (hc : cSlice P t x lo hi mx = some q)
    (hmxhi : mx ≠ none → hi ≠ none) (hs : q.step P T fl env H = some (v, H')) :
    Res w0 ρ H w v H' ((Instr.sliceAt t (a.eval x) (lo.map a.eval) (hi.map a.eval) (mx.map a.eval)).run P w) := by
  have hv := E.ev hx
  unfold cSlice at hc
  split at hc
  · rename_i hu
    split at hc
    · rename_i hmn
      obtain rfl := Option.some.inj hc
      have hmn' : mx = none := by simpa using hmn
      subst hmn'
      simp only [LO.step] at hs
      split at hs
      · rename_i s hev
        split at hs
        · rename_i l h hl hh
          split at hs
          · rename_i hb
            simp only [Option.some.injEq, Prod.mk.injEq] at hs
            obtain ⟨rfl, rfl⟩ := hs
            rw [hev] at hv
            have hr := bounds_run (P := P) (dm := h) (cap := s.size) (mx := none) E false h1 h2 rfl hl hh (by rfl) (fun _ => rfl) hb.1 (Nat.le_refl _) hb.2 (fun h => absurd rfl h) (fun h => absurd rfl h)
            simp only [Option.map_none, if_true] at hr
            generalize a.eval x = X at hv ⊢
            cases hv
            refine Res.same R ?_ (.string _)
            simp [Instr.sliceAt, Instr.slice, run_underlying hu, hr]
          · simp at hs
        · simp at hs
      · simp at hs
    · simp at hc
  · rename_i e hu
    simp only [Option.map_eq_some_iff] at hc
    obtain ⟨n, hn, rfl⟩ := hc
    simp only [LO.step] at hs
    split at hs
    · rename_i sa len c0 hev
      split at hs
      · rename_i l h m hl hh hm
        split at hs
        · rename_i hb
          obtain ⟨hb1, hb2, hb3, hb4, hb5⟩ := hb
          simp only [Option.some.injEq, Prod.mk.injEq] at hs
          obtain ⟨rfl, rfl⟩ := hs
          rw [hev] at hv
          have key : ∀ cap, len ≤ cap → (Instr.sliceBounds true len cap (lo.map a.eval) (hi.map a.eval) (mx.map a.eval)).run P w = .ok (l, h, if mx = none then cap else m) w := fun cap hcap =>
            bounds_run (P := P) (dm := len) E true h1 h2 h3 hl hh hm (fun e => by subst e; simp [bnd] at hm; exact hm.symm) hb1 hb3 (by omega) (fun _ => by omega) hmxhi
          generalize a.eval x = X at hv ⊢
          cases hv with
          | sliceNil =>
            have hk := key 0 (Nat.le_refl _)
            have hl0 : l = 0 := by omega
            have hh0 : h = 0 := by omega
            have hm0 : m = 0 := by omega
            subst hl0 hh0 hm0
            refine Res.same R (v' := .slice none 0 0) ?_ .sliceNil
            cases mx <;> simp_all [Instr.sliceAt, Instr.slice, run_underlying hu, run_sizeOf hn]
          | slice id off g _ _ c' ra hid hg hnc ha =>
            have hk := key c' hnc
            refine Res.same R (v' := .slice (if (if mx = none then c' else m) = l then some ra else some (ra.add (l * n))) (h - l) ((if mx = none then c' else m) - l)) ?_ ?_
            · simp only [Instr.sliceAt, Instr.slice, Sem.run_bind, run_underlying hu, Result.andThen_ok, hk, run_sizeOf hn, Sem.run_pure, Option.map_some]
            · simp only [Option.map_some]
              have hcn : c0 = n := by simpa using hb5
              have hcap : h ≤ (if mx = none then c' else m) := by split <;> omega
              have hcap2 : (if mx = none then c' else m) ≤ c' := by split <;> omega
              generalize (if mx = none then c' else m) = M at hcap hcap2 ⊢
              have hite : (if M = l then some ra else some (ra.add (l * n))) = some (if M = l then ra else ra.add (l * n)) := by split <;> rfl
              rw [hite]
              refine .slice _ _ _ _ _ _ _ hid hg (by omega) fun e => ⟨fun hp => ?_, fun hr hr0 hp => ?_⟩
              · rw [if_neg (by omega), (ha e).1 (by omega), Addr.add_lit, Nat.add_assoc]
              · have := (ha e).2 hr hr0 (by omega)
                rw [hcn] at this ⊢
                have e1 : (M - l) * n + l * n = M * n := by rw [← Nat.add_mul]; congr 1; omega
                have e2 : M * n ≤ c' * n := Nat.mul_le_mul_right _ hcap2
                omega
        · simp at hs
      · simp at hs
    · simp at hs
  · rename_i len e hu
    split at hc
    · rename_i hmn
      simp only [Option.map_eq_some_iff] at hc
      obtain ⟨n, hn, rfl⟩ := hc
      have hmn' : mx = none := by simpa using hmn
      subst hmn'
      simp only [LO.step] at hs
      split at hs
      · rename_i sa hev
        split at hs
        · rename_i l h hl hh
          split at hs
          · rename_i hb
            simp only [Option.some.injEq, Prod.mk.injEq] at hs
            obtain ⟨rfl, rfl⟩ := hs
            rw [hev] at hv
            have hr := bounds_run (P := P) (dm := h) (cap := len) (mx := none) E false h1 h2 rfl hl hh (by rfl) (fun _ => rfl) hb.1 (Nat.le_refl _) hb.2 (fun h => absurd rfl h) (fun h => absurd rfl h)
            simp only [Option.map_none, if_true] at hr
            generalize a.eval x = X at hv ⊢
            cases hv with
            | ptr id off g ra hid hg ha =>
              refine Res.same R (v' := .slice (some (if len = l then ra else ra.add (l * n))) (h - l) (len - l)) ?_ ?_
              · simp only [Instr.sliceAt, Sem.run_bind, run_underlying hu, Result.andThen_ok, Instr.sureAddr, Sem.run_pure, Option.map_none, hr, run_sizeOf hn]
              · refine .slice _ _ _ _ _ _ _ hid hg (by omega) fun e => ⟨fun hp => ?_, fun _ h0 _ => absurd rfl h0⟩
                rw [if_neg (by omega), ha e, Addr.add_lit, Nat.add_assoc]
          · simp at hs
        · simp at hs
      · simp at hs
    · simp at hc
  · simp at hc

end
end Go.Lev

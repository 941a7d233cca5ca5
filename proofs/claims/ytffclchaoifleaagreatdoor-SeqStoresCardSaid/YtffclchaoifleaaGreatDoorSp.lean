/- The walk of the function literal of strings.SplitSeq. -/
import Derived.Test.YtffclchaoifleaaGreatDoorTx
import Derived.RangeFuncNested
import Derived.RangeFuncBound
import Derived.RangeFuncCalls
import Derived.RangeFuncLeaves
import Derived.Shelf.Abstract
import Derived.Shelf.RegionOpen
import Derived.WalkKit
import Derived.OwnWalkIn
import Derived.TacticsInMore
import Derived.LoopNIn
import Derived.LoopIn
set_option linter.unusedVariables false
set_option linter.unusedSimpArgs false
set_option linter.constructorNameAsVariable false

namespace Go.Lev.Seat
open Go Go.Lev Go.RowKit Go.Shelf
set_option linter.unusedVariables false
attribute [local go_sem] Oper.semAt_some

/-- The loop's body, and what stands behind the loop. -/
noncomputable def splitBody : Code := match Go.Proofs.Tryz.f138.body with
  | some (.seq _ (.seq (.block _ (.loop b)) _)) => b
  | _ => .skip
noncomputable def splitTail : Code := match Go.Proofs.Tryz.f138.body with
  | some (.seq _ (.seq (.block _ (.loop _)) t)) => t
  | _ => .skip

theorem cellOf {w0 w : World} {ρ : Nat → RB} {H : Heap} (R : Rel w0 ρ H w) {ad a : Addr} {v : Value} (h : rd1 H ad = some v) (hx : VRel H.length ρ w.heap (.pointer (some ad)) (.pointer (some a))) (hs : isSc v = true) : w.cell? a = some v := by
  obtain ⟨v', e, h1, h2⟩ := R.rd1 h hx
  simp only [Value.pointer.injEq, Option.some.injEq] at e
  rw [e, h1, h2.sc hs]

theorem storeOf {w0 w : World} {ρ : Nat → RB} {H H3 : Heap} (R : Rel w0 ρ H w) {fl : Nat} {ad a : Addr} {v u : Value} (hwr : wrN fl H ad [v] = some H3) (hx : VRel H.length ρ w.heap (.pointer (some ad)) (.pointer (some a))) (hs : isSc0 v = true) (hone : v.oneCell' = true) (hc : w.cell? a = some u) :
    w.frozen? a = false ∧ ∃ ρ', Rel w0 ρ' H3 (w.setCell a v) ∧ Ext H.length ρ w.heap H3.length ρ' (w.setCell a v).heap := by
  obtain ⟨w', ρ', e, hrun, R', X⟩ := R.wrN (P := P0) hwr hx (vs' := [v]) ⟨rfl, fun j x y h1 h2 => by
    obtain rfl := Option.some.inj (h1.symm.trans h2)
    have := List.mem_of_getElem? h1
    simp at this
    subst this
    exact .ofSc0 hs⟩
  simp only [Value.pointer.injEq, Option.some.injEq] at e
  rw [← e] at hrun
  have hadd : a.add 0 = a := by rw [e]; simp [Addr.add]
  simp only [storeCells, Sem.run_bind, hadd, run_store _ _ _ _ _ hone, hc] at hrun
  cases hf : w.frozen? a with
  | true => rw [hf] at hrun; simp [Result.andThen] at hrun
  | false =>
    rw [hf] at hrun
    simp [Result.andThen] at hrun
    subst hrun
    exact ⟨rfl, ρ', R', X⟩

theorem split_loop {w0 : World} {T : Tab} (hT : Valid P0 w0 T) {fl : Nat} {rnd : Value → Heap → Option (Ex × Heap)} {asep ad asave : Addr} {l : Nat} {rec : Loop} (hw0 : w0.heap.size ≤ l) (hst : rec.state = .ready) (hpe : rec.pending = none) (hps : rec.params.size = 1)
    {N0 : Nat} {ρ0 : Nat → RB} {h0 : Array Obj} (hR : RoundOK P0 w0 l rec rnd N0 ρ0 h0) {ex : Ex} {H' : Heap} {n : Nat} {a1 a2 a3 : Addr} {Q : Exit → Act → World → Prop} {K : Act → World → Prop} (hK : ∀ a w, splitTail.wpIn (FW none) n P0 Q a w → K a w)
    (hQ : ∀ (e : Exit) (a : Act) (w : World) (ρ : Nat → RB), a.defers = [] → (e = .ret ∨ e = .normal) → Rel w0 ρ H' w → ExtL l N0 ρ0 h0 H'.length ρ w.heap → w.heap[l]? = some (.loop (stepRec rec ex)) → Q e a w) : ∀ (k : Nat) (H : Heap) (w : World) (ρ : Nat → RB) (t4 t5 t6 t7 t8 t9 t10 t11 t12 t13 t14 t15 t16 t17 t18 t19 t20 t21 t22 t23 t24 t25 t26 t27 t28 t29 t30 t31 t32 t33 t34 t35 t36 t37 t38 t39 t40 t41 t42 t43 t44 t45 t46 t47 t48 t49 t50 t51 : Value),
    splitRun T fl 140 rnd asep ad asave k H = some (ex, H') → Rel w0 ρ H w → ExtL l N0 ρ0 h0 H.length ρ w.heap → w.heap[l]? = some (.loop rec) →
    VRel H.length ρ w.heap (.pointer (some asep)) (.pointer (some a1)) → VRel H.length ρ w.heap (.pointer (some ad)) (.pointer (some a2)) → VRel H.length ρ w.heap (.pointer (some asave)) (.pointer (some a3)) →
    Code.roundsIn (FW none) n P0 splitBody (Exit.inBlock 2 (Exit.then K Q)) k { tmps := #[.func (.yield l) #[] #[], .pointer (some a1), .pointer (some a2), .pointer (some a3), t4, t5, t6, t7, t8, t9, t10, t11, t12, t13, t14, t15, t16, t17, t18, t19, t20, t21, t22, t23, t24, t25, t26, t27, t28, t29, t30, t31, t32, t33, t34, t35, t36, t37, t38, t39, t40, t41, t42, t43, t44, t45, t46, t47, t48, t49, t50, t51], defers := [] } w := by
  intro k
  induction k with
  | zero => intro H w ρ t4 t5 t6 t7 t8 t9 t10 t11 t12 t13 t14 t15 t16 t17 t18 t19 t20 t21 t22 t23 t24 t25 t26 t27 t28 t29 t30 t31 t32 t33 t34 t35 t36 t37 t38 t39 t40 t41 t42 t43 t44 t45 t46 t47 t48 t49 t50 t51 h; simp [splitRun] at h
  | succ k ih =>
    intro H w ρ t4 t5 t6 t7 t8 t9 t10 t11 t12 t13 t14 t15 t16 t17 t18 t19 t20 t21 t22 t23 t24 t25 t26 t27 t28 t29 t30 t31 t32 t33 t34 t35 t36 t37 t38 t39 t40 t41 t42 t43 t44 t45 t46 t47 t48 t49 t50 t51 h R X hl v1 v2 v3
    have hro : (FW none).round = none := rfl
    simp only [splitRun] at h
    split at h
    case h_2 => simp at h
    rename_i s sep hs hsep
    split at h
    case h_2 => simp at h
    rename_i i H1 hi
    split at h
    case h_2 => simp at h
    rename_i s1 z hs1 hz
    have c1 := cellOf R hsep v1 rfl
    have c2 := cellOf R hs v2 rfl
    rw [roundsIn_succ]
    have hI : CallsIn (FW none) (n - 1) P0 140 #[.string s, .string sep] w fun e w' => ∃ v' ρ', e = .returned v' ∧ VRel H1.length ρ' w'.heap (.int .i64 i) v' ∧ Rel w0 ρ' H1 w' ∧ Ext H.length ρ w.heap H1.length ρ' w'.heap :=
      callsIn_FW.2 ((hT 140 fl _ H _ _ hi).2.2 ρ w _ R ⟨rfl, fun j u u' q1 q2 => by
        match j with
        | 0 => simp at q1 q2; subst q1; subst q2; exact .string _
        | 1 => simp at q1 q2; subst q1; subst q2; exact .string _
        | j + 2 => simp at q1⟩)
    obtain ⟨QQ, hqq⟩ : ∃ QQ : Exit → Act → World → Prop, (∀ a w, Code.roundsIn (FW none) n P0 splitBody (Exit.inBlock 2 (Exit.then K Q)) k a w → QQ .normal a w) ∧ (∀ a w, K a w → QQ (.exit 2) a w) ∧ (∀ a w, Q .ret a w → QQ .ret a w) ∧ ∀ a w, splitBody.wpIn (FW none) n P0 QQ a w → splitBody.wpIn (FW none) n P0 (Exit.then (Code.roundsIn (FW none) n P0 splitBody (Exit.inBlock 2 (Exit.then K Q)) k) (Exit.inBlock 2 (Exit.then K Q))) a w := ⟨Exit.then (Code.roundsIn (FW none) n P0 splitBody (Exit.inBlock 2 (Exit.then K Q)) k) (Exit.inBlock 2 (Exit.then K Q)), fun _ _ h => h, fun _ _ h => by simpa [Exit.then, Exit.inBlock] using h, fun _ _ h => by simpa [Exit.then, Exit.inBlock] using h, fun _ _ h => h⟩
    refine hqq.2.2.2 _ _ ?_
    dsimp only [splitBody, Go.Proofs.Tryz.f138]
    gi_wp2
    refine ⟨trivial, fun h => by simp [FW, Fence.wide] at h, hI.mono ?_⟩
    rintro e w1 ⟨v', ρ1, rfl, hv, R1, X1⟩
    have hv' := hv.sc rfl
    subst hv'
    have hl1 : w1.heap[l]? = some (.loop rec) := by rw [X1.frame l (lt_of_some hl) (R.noBox hl fun _ _ _ e => by cases e)]; exact hl
    have Y1 := X.trans (X1.toL l)
    have d2 := cellOf R1 hs1 (v2.mono X1) rfl
    have d3 := cellOf R1 hz (v3.mono X1) rfl
    obtain ⟨tmf, htmf⟩ : ∃ f : Value → Array Value, f = fun v => (rec.params.zip #[v]).foldl (fun tmps (t, a) => tmps.setIfInBounds t a) rec.tmps := ⟨_, rfl⟩
    have hy : ∀ v : Value, (Instr.yield l #[v]).run P0 w1 = .ok (.round l rec.fn (tmf v) rec.assign rec.body) w1 := fun v => by rw [htmf]; exact run_yield hl1 (by rw [hps]; rfl)
    have hRt : ∀ (m : Nat) (t : ByteArray) (e2 : Ex) (H2 : Heap), rnd (.string t) H1 = some (e2, H2) → RoundIn (FW none) m P0 l rec.fn (tmf (.string t)) rec.assign rec.body w1 fun e w2 =>
        e = .returned (.bool (e2 == .normal)) ∧ ∃ ρ2, Rel w0 ρ2 H2 w2 ∧ ExtL l H1.length ρ1 w1.heap H2.length ρ2 w2.heap ∧ w2.heap[l]? = some (.loop (stepRec rec e2)) := fun m t e2 H2 hh => by
      rw [htmf]
      exact hR m ρ1 H1 w1 _ _ e2 H2 Y1 R1 hl1 (.string t) hh
    clear htmf
    split at h
    · rename_i hneg
      gi_wp2
      refine hqq.2.1 _ _ (hK _ _ ?_)
      dsimp only [splitTail, Go.Proofs.Tryz.f138]
      have hy1 := hy (.string s1)
      gi_wp2
      refine ⟨fun h => by simp [FW, Fence.wide] at h, (hRt _ s1 ex H' h).mono ?_⟩
      rintro e w2 ⟨rfl, ρ2, R2, X2, hl2⟩
      gi_wp2
      exact hQ _ _ _ ρ2 rfl (.inr rfl) R2 (Y1.trans X2) hl2
    · rename_i hneg
      split at h
      case isFalse => simp at h
      rename_i hc
      obtain ⟨rfl, hc1, hc2⟩ := hc
      have hy1 := hy (.string (s1.extract 0 i.toNat))
      gi_wp2
      cases hrnd : rnd (.string (s1.extract 0 i.toNat)) H1 with
      | none => rw [hrnd] at h; simp at h
      | some p =>
        obtain ⟨e2, H2⟩ := p
        rw [hrnd] at h
        refine ⟨fun h => by simp [FW, Fence.wide] at h, (hRt _ _ e2 H2 hrnd).mono ?_⟩
        rintro e w2 ⟨rfl, ρ2, R2, X2, hl2⟩
        cases e2 with
        | normal =>
          simp only at h
          split at h
          case h_2 => simp at h
          rename_i s2 sep2 hs2 hsep2
          split at h
          case isFalse => simp at h
          rename_i hc3
          split at h
          case h_2 => simp at h
          rename_i H3 hH3
          have hl1n := noCells_loop hl1
          have f1 := cellOf R2 hsep2 ((v1.mono X1).monoL X2 hl1n) rfl
          have f2 := cellOf R2 hs2 ((v2.mono X1).monoL X2 hl1n) rfl
          have hb : (Ex.normal == Ex.normal) = true := rfl
          simp only [hb]
          have g1 : (0 : Int) ≤ i := by omega
          have g2 : i + (sep2.size : Int) ≤ (s2.size : Int) := by omega
          have g3 : IntKind.i64.wrap (i + (sep2.size : Int)) = i + (sep2.size : Int) := by
            rw [IntKind.wrap_i64]; omega
          obtain ⟨f3, ρ3, R3, X3⟩ := storeOf R2 hH3 ((v2.mono X1).monoL X2 hl1n) rfl rfl f2
          have g4 : (i + (sep2.size : Int)).toNat = i.toNat + sep2.size := by omega
          gi_wp2
          have hl3 : (w2.setCell a2 (.string (s2.extract (i.toNat + sep2.size) s2.size))).heap[l]? = some (.loop rec) := by
            rw [X3.frame l (lt_of_some hl2) (R2.noBox hl2 fun _ _ _ e => by cases e)]; exact hl2
          exact hqq.1 _ _ (ih H3 _ ρ3 _ _ _ _ _ _ _ _ _ _ _ _ _ _ _ _ _ _ _ _ _ _ _ _ _ _ _ _ _ _ _ _ _ _ _ _ _ _ _ _ _ _ _ _ _ _ _ _ h R3 ((Y1.trans X2).trans (X3.toL l)) hl3 (((v1.mono X1).monoL X2 hl1n).mono X3) (((v2.mono X1).monoL X2 hl1n).mono X3) (((v3.mono X1).monoL X2 hl1n).mono X3))
        | ret =>
          simp only [Option.some.injEq, Prod.mk.injEq] at h
          obtain ⟨rfl, rfl⟩ := h
          have hb : (Ex.ret == Ex.normal) = false := rfl
          simp only [hb]
          gi_wp2
          exact hqq.2.2.1 _ _ (hQ _ _ _ ρ2 rfl (.inl rfl) R2 (Y1.trans X2) hl2)
        | exit id =>
          simp only [Option.some.injEq, Prod.mk.injEq] at h
          obtain ⟨rfl, rfl⟩ := h
          have hb : (Ex.exit id == Ex.normal) = false := rfl
          simp only [hb]
          gi_wp2
          exact hqq.2.2.1 _ _ (hQ _ _ _ ρ2 rfl (.inl rfl) R2 (Y1.trans X2) hl2)

theorem split_ok {w0 : World} : SplitSound P0 w0 138 140 := by
  refine ⟨⟨Go.Proofs.Tryz.f138, Go.Proofs.Tryz.func138, by kernel_rfl, by kernel_rfl⟩, ?_⟩
  intro T fl rnd asep ad asave sep k H H' ex hT hsep hsz hrun n l rec ρ w cs R hw0 hl hst hpe hps hL hR
  obtain ⟨a1, a2, a3, rfl, v1, v2, v3⟩ : ∃ a1 a2 a3 : Addr, cs = #[.pointer (some a1), .pointer (some a2), .pointer (some a3)] ∧ VRel H.length ρ w.heap (.pointer (some asep)) (.pointer (some a1)) ∧ VRel H.length ρ w.heap (.pointer (some ad)) (.pointer (some a2)) ∧ VRel H.length ρ w.heap (.pointer (some asave)) (.pointer (some a3)) := by
    obtain ⟨cl⟩ := cs
    obtain ⟨h1, h2⟩ := hL
    match cl, h1 with
    | [x, y, z], _ =>
      have e1 := h2 0 _ _ rfl rfl
      have e2 := h2 1 _ _ rfl rfl
      have e3 := h2 2 _ _ rfl rfl
      cases e1; cases e2; cases e3
      refine ⟨_, _, _, rfl, ?_, ?_, ?_⟩ <;> constructor <;> assumption
  have hro : (FW none).round = none := rfl
  have c1 := cellOf R hsep v1 rfl
  have hsz' : ¬ ((sep.size : Int) = 0) := by omega
  refine callsIn_of_wp_marks Go.Proofs.Tryz.func138 rfl trivial ?_ rfl
  simp only [Go.Proofs.Tryz.ntmps138, List.size_toArray, List.length_cons, List.length_nil, Nat.reduceAdd, Nat.reduceSub, Array.replicate_succ, Array.replicate_zero, List.push_toArray, List.append_toArray, List.nil_append, List.cons_append]
  gi_wp2
  refine wpIn_loop_rounds k ?_
  refine split_loop hT hw0 hst hpe hps hR (by assumption) (fun e a w' ρ' hd he R' X' hl' => ?_) k H w ρ _ _ _ _ _ _ _ _ _ _ _ _ _ _ _ _ _ _ _ _ _ _ _ _ _ _ _ _ _ _ _ _ _ _ _ _ _ _ _ _ _ _ _ _ _ _ _ _ hrun R ((Ext.refl _ _ _).toL l) hl v1 v2 v3
  have hlv : LeavesInM (FW none) n P0 Go.Proofs.Tryz.f138 a.tmps (fun e w' => (∃ v, e = .returned v) ∧ ∃ ρ', Rel w0 ρ' H' w' ∧ ExtL l H.length ρ w.heap H'.length ρ' w'.heap ∧ w'.heap[l]? = some (.loop (stepRec rec ex))) a.defers .returning w' := by
    rw [hd]
    exact ⟨_, results_none rfl _ _ _, ⟨_, rfl⟩, ρ', R', X', hl'⟩
  rcases he with rfl | rfl
  · exact hlv
  · exact hlv
end Go.Lev.Seat

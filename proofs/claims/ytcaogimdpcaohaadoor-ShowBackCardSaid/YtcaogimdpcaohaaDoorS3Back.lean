/- A part of the proof: see the last text of this claim. -/
import Derived.Test.YtcaogimdpcaohaaDoorSB
import Derived.Test.YtcaogimdpcaohaaDoorHh
import Derived.Test.YtcaogimdpcaohaaDoorLvG
import Derived.JoinedCond
import Derived.Test.YtcaogimdpcaohaaDoorRows
import Derived.Deep.DeepHandedRow
import Derived.Lay
import Derived.LaidLaws
import Derived.LaidHandle
import Derived.Stop.LaidErr
import Derived.Stop.Joined
import Derived.Lib.LaidTab
import Derived.ProofKit
import Derived.OpenShut
import Derived.ShutString
import Derived.SizedLaws
import Derived.Shelf.Vars
set_option linter.unusedVariables false
set_option linter.unusedSimpArgs false
set_option linter.constructorNameAsVariable false
namespace Go.Proofs.YtcaogimdpcaohaaDoor.VShowBack
open Go Go.Lev Go.Lev.Seat Go.RowKit Go.ChangeShapes Go.WideShapes Go.ChangeAt
open Go.ChangeMaps (open_string shut_string)
set_option linter.unusedVariables false

theorem laidOut : laidOutB Tryd.prog = true := by kernel_rfl
theorem own : ownKnob Tryd.prog.godebug = none := by kernel_rfl

noncomputable def laidAll : List (String × DataW Unit) := Rows.showBackRow.laid
noncomputable def laidW (os : Os) : World := World.laidAll Tryd.prog os Rows.showBackRow.laid

theorem laid_met (os : Os) (args : Array Value) : laidMetH Tryd.prog Rows.showBackRow.laid ((laidW os).forCall (fun _ _ => 0) ⟨#[], args, []⟩).memory :=
  laidMet_laidAll args (by kernel_rfl) (by kernel_rfl)

theorem star : "*" ++ "errors.errorString" = "*errors.errorString" := by decide

theorem wok {W : World} (hL : laidMetH Tryd.prog Rows.showBackRow.laid W) (hsh : W.ShapedOpen Tryd.prog) : WOK W := by
  have h0 : laidMet Tryd.prog Rows.showBackRow.laid W := hL
  have h1 := laidMet.tail h0
  have h2 := laidMet.tail h1
  have h3 := laidMet.tail h2
  have h4 := laidMet.tail h3
  have rowE : ∀ u, Tryd.prog.typeName? 3 u = some "*errors.errorString" → u = 116 := fun u h =>
    typeName_ptr_named (nm := "errors.errorString") (by rw [star]; kernel_rfl) (by kernel_rfl) (by decide) u (by rw [star]; exact h)
  have e2 : Rows.laid_internal_strconv_uint64pow10 = Lib.tabData (H := Unit) .u64 Lib.pow10Tab := by kernel_rfl
  have h2' : laidMet Tryd.prog (("internal/strconv.uint64pow10", Lib.tabData .u64 Lib.pow10Tab) :: [("strconv.ErrRange", Rows.laid_strconv_ErrRange), ("strconv.ErrSyntax", Rows.laid_strconv_ErrSyntax)]) W := by rw [← e2]; exact h2
  have hpow := Lib.tabIs_of_head (g := 2) (t := 100) (e := 42) (n := 20) (by kernel_rfl) (by kernel_rfl) (by kernel_rfl) (by kernel_rfl) (by kernel_rfl) (by kernel_rfl) h2'
  obtain ⟨a1, t1, hv1, _⟩ := laid_sentinel (g := 1) (ti := 38) (tp := 116) (te := 118) (ts := 9) h3 (by kernel_rfl) (by kernel_rfl) Tryd.underlying38 rowE Tryd.underlying116 Tryd.underlying118 rfl rfl Tryd.underlying9 (by kernel_rfl) (by kernel_rfl)
  obtain ⟨a0, t0, hv0, _⟩ := laid_sentinel (g := 0) (ti := 38) (tp := 116) (te := 118) (ts := 9) h4 (by kernel_rfl) (by kernel_rfl) Tryd.underlying38 rowE Tryd.underlying116 Tryd.underlying118 rfl rfl Tryd.underlying9 (by kernel_rfl) (by kernel_rfl)
  obtain ⟨m, hm⟩ := cell_of_shapedOpen_int (P := Tryd.prog) (g := 3) (t := 3) (zero := #[.int .i64 0]) hsh (of_decide_eq_true (by kernel_rfl)) (by kernel_rfl) rfl (by kernel_rfl) (by kernel_rfl) Tryd.underlying3
  refine ⟨hpow, ⟨_, _, hv0⟩, ⟨_, _, hv1⟩, ⟨m, hm⟩, ?_⟩
  rcases Nat.lt_or_ge 3 W.heap.size with h | h
  · exact h
  · simp only [World.cell?, Array.getElem?_eq_none h] at hm
    simp at hm

theorem witness (os : Os) (H : Type) (enc : TypeId × Value → H) : ∃ (w : World) (tape : Tape) (i : Input), w.os = os ∧ (w.forCall tape i).Shaped Tryd.prog ∧ i.vars = [] ∧ Input.okWide Tryd.prog (w.forCall tape i) .any w.heap.size 4 i ∧
      (OpenSpec.ofChange Rows.showBackSpec).preRow enc Tryd.prog Tryd.f4 Rows.showBackRow.domain false Rows.showBackRow.laid (w.forCall tape i).memory i.args ∧ ({} : Assume).holds Tryd.prog (lone (Frame.enter Tryd.prog 4 i.args .normal) [] (w.forCall tape i)) := by
  have hok : Input.okWideB Tryd.prog ((laidW os).forCall (fun _ _ => 0) ⟨#[], #[instV 0 0 0 0 0 false false 0 0, instV 0 0 0 0 0 false false 0 0, .string ⟨#[]⟩], []⟩) 4 ⟨#[], #[instV 0 0 0 0 0 false false 0 0, instV 0 0 0 0 0 false false 0 0, .string ⟨#[]⟩], []⟩ = true := by kernel_rfl
  exact ⟨laidW os, fun _ _ => 0, ⟨#[], #[instV 0 0 0 0 0 false false 0 0, instV 0 0 0 0 0 false false 0 0, .string ⟨#[]⟩], []⟩, World.laidAll_os _ _ _, World.shaped_of_ZipB (by kernel_rfl) (by kernel_rfl), (Input.okWide_of_okWideB (base := 0) hok).1, (Input.okWide_of_okWideB hok).2,
    OpenSpec.preRow_of_B rfl 8 (by kernel_rfl) (by kernel_rfl) (laid_met os _), by
    simp only [Assume.holds]
    exact ⟨by simp, by simp, fun _ => Modest.zero, by simp, by simp⟩⟩

set_option maxRecDepth 100000 in
theorem lifted (os : Os) (started : os.Started) (H : Type) (enc : TypeId × Value → H) (F : Stop.Interp) :
    ReturnsInHanded {} Tryd.checked os 4 .any ((OpenSpec.ofChange Rows.showBackSpec).preRow enc Tryd.prog Tryd.f4 Rows.showBackRow.domain false Rows.showBackRow.laid) (((OpenSpec.ofChange Rows.showBackSpec).at F).post enc Tryd.prog Tryd.f4 false true false false) := by
  refine returnsInHanded_of_row (C := Tryd.checked) (s := OpenSpec.ofChange Rows.showBackSpec) own started (by kernel_rfl) Tryd.func4 (witness os H enc) ?_
  intro W base args ds gs before hval0 hW _ _ _ hL hsh _
  have hval : ∀ (j : Nat) t v, Tryd.f4.params[j]? = some t → args[j]? = some v → Value.okWide Tryd.prog W .any base t v := hval0
  have hW' := hW
  obtain ⟨p, q, hA0, hV0, rfl, _, _⟩ := hW
  have hA : DataW.TrodAll enc Tryd.prog W 0 (fun _ => true) true Tryd.f4.params.toList args.toList ds p := hA0
  rw [Tryd.params4] at hA hval
  obtain ⟨v0, v1, v2, d0, d1, d2, p0, p1, p2, rfl, rfl, rfl, h0, h1, h2⟩ := trodAll_three hA
  obtain ⟨rfl, rfl⟩ := trodVars_none hV0
  have h0k := h0
  have h1k := h1
  obtain ⟨cs, rfl, _⟩ := okWide_struct Tryd.underlying30 (hval 0 30 v0 rfl rfl)
  obtain ⟨ds, rfl, _⟩ := okWide_struct Tryd.underlying30 (hval 1 30 v1 rfl rfl)
  obtain ⟨fuel, hf⟩ := h0
  obtain ⟨fuel1, hf1⟩ := h1
  obtain ⟨hs1, hp⟩ := trod_shape 5 30 [.i .i64, .i .i64, .i .i64, .i .i64, .i .i64, .b, .b, .i .i64, .i .i64] (by kernel_rfl) fuel _ _ hf
  obtain ⟨hs2, hp2⟩ := trod_shape 5 30 [.i .i64, .i .i64, .i .i64, .i .i64, .i .i64, .b, .b, .i .i64, .i .i64] (by kernel_rfl) fuel1 _ _ hf1
  simp only at hp hp2
  subst hp hp2
  obtain ⟨op, rd, r1, r2, imm, aq, rl, pp, ss, hl, w0, _, _, _, w4, _, _⟩ := okInst hs1
  obtain ⟨op', rd', r1', r2', imm', aq', rl', pp', ss', hl', w0', _, _, _, w4', _, _⟩ := okInst hs2
  obtain rfl : cs = (Ins.mk op rd r1 r2 imm aq rl pp ss).v.cells := by
    have e : (Value.agg cs).cells.toList = cs.toList := rfl
    rw [e] at hl
    have h2 : cs = cs.toList.toArray := by simp
    rw [h2, hl]
    rfl
  obtain rfl : ds = (Ins.mk op' rd' r1' r2' imm' aq' rl' pp' ss').v.cells := by
    have e : (Value.agg ds).cells.toList = ds.toList := rfl
    rw [e] at hl'
    have h2 : ds = ds.toList.toArray := by simp
    rw [h2, hl']
    rfl
  obtain ⟨s, rfl, rfl, rfl, ws⟩ := open_string Tryd.underlying9 (hval 2 9 v2 rfl rfl) h2
  have hc : Calls Tryd.prog 4 #[(Ins.mk op rd r1 r2 imm aq rl pp ss).v, (Ins.mk op' rd' r1' r2' imm' aq' rl' pp' ss').v, .string s] W fun e w' => e = .returned (.bool true) ∧ Below W.heap.size W w' := calls_of (wok hL hsh) (back_run ⟨op, rd, r1, r2, imm, aq, rl, pp, ss⟩ ⟨op', rd', r1', r2', imm', aq', rl', pp', ss'⟩ s.data.toList w4 w4' 21 0 [] (Nat.le_refl _)) (by simp [Ins.sc]) rfl
  refine hc.mono fun e W' ⟨he, bel⟩ => ?_
  subst he
  exact ⟨_, rfl, _, _, _, [], [], [], hW', trodAll_mk1 (shut_bool Tryd.underlying4 _), trodAll_mk3 (Below.trod laidOut (by kernel_rfl) (of_decide_eq_true (by kernel_rfl)) h0k bel (fun x hx => by cases hx)) (Below.trod laidOut (by kernel_rfl) (of_decide_eq_true (by kernel_rfl)) h1k bel (fun x hx => by cases hx)) (shut_string Tryd.underlying9 ws), rfl, bel.frame _, fun h => by cases h⟩

theorem row_holds : Rows.ShowBackSaid :=
  OpenClaim.holds_of_cond 4 Tryd.f4 rfl rfl rfl rfl rfl rfl rfl ⟨rfl, rfl, rfl, rfl, rfl⟩ rfl rfl rfl rfl rfl (by kernel_rfl) Tryd.func4 (by kernel_rfl)
    (of_decide_eq_true (by kernel_rfl)) (by unfold Func.isWrapper; first | (rw [if_pos (by decide +kernel)]; kernel_rfl) | (rw [if_neg (by decide +kernel)]; exact ⟨rfl, rfl⟩))
    (fun os started H enc _ F => by rw [OpenClaim.pre_eq_preRow]; exact lifted os started H enc F)
end Go.Proofs.YtcaogimdpcaohaaDoor.VShowBack

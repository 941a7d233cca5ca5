/- A part of the proof: see the last text of this claim. -/
import Derived.Test.YtcaogimdpcaohaaGreatDoorS2
import Derived.Test.YtcaogimdpcaohaaGreatDoorHj
import Derived.Test.YtcaogimdpcaohaaGreatDoorLvG
import Derived.JoinedCond
import Derived.Test.YtcaogimdpcaohaaGreatDoorRows
import Derived.Deep.DeepHandedRow
import Derived.Lay
import Derived.LaidLaws
import Derived.LaidHandle
import Derived.Stop.LaidErr
import Derived.Stop.Joined
import Derived.Lib.LaidTab
import Derived.ProofKit
import Derived.OpenShut
import Derived.ShutString
import Derived.SizedLaws
import Derived.Shelf.Vars
set_option linter.unusedVariables false
set_option linter.unusedSimpArgs false
set_option linter.constructorNameAsVariable false
namespace Go.Proofs.YtcaogimdpcaohaaGreatDoor.VShowReads
open Go Go.Lev Go.Lev.Seat Go.RowKit Go.ChangeShapes Go.WideShapes Go.ChangeAt
open Go.ChangeMaps (open_string shut_string)
set_option linter.unusedVariables false

theorem laidOut : laidOutB Tryz.prog = true := by kernel_rfl
theorem own : ownKnob Tryz.prog.godebug = none := by kernel_rfl

noncomputable def laidAll : List (String × DataW Unit) := Rows.showReadsRow.laid
noncomputable def laidW (os : Os) : World := World.laidAll Tryz.prog os Rows.showReadsRow.laid

theorem laid_met (os : Os) (args : Array Value) : laidMetH Tryz.prog Rows.showReadsRow.laid ((laidW os).forCall (fun _ _ => 0) ⟨#[], args, []⟩).memory :=
  laidMet_laidAll args (by kernel_rfl) (by kernel_rfl)

theorem star : "*" ++ "errors.errorString" = "*errors.errorString" := by decide

theorem wok {W : World} (hL : laidMetH Tryz.prog Rows.showReadsRow.laid W) (hsh : W.ShapedOpen Tryz.prog) : WOK W := by
  have h0 : laidMet Tryz.prog Rows.showReadsRow.laid W := hL
  have h1 := laidMet.tail h0
  have h2 := laidMet.tail h1
  have h3 := laidMet.tail h2
  have h4 := laidMet.tail h3
  have rowE : ∀ u, Tryz.prog.typeName? 3 u = some "*errors.errorString" → u = 124 := fun u h =>
    typeName_ptr_named (nm := "errors.errorString") (by rw [star]; kernel_rfl) (by kernel_rfl) (by decide) u (by rw [star]; exact h)
  have e2 : Rows.laid_internal_strconv_uint64pow10 = Lib.tabData (H := Unit) .u64 Lib.pow10Tab := by kernel_rfl
  have h2' : laidMet Tryz.prog (("internal/strconv.uint64pow10", Lib.tabData .u64 Lib.pow10Tab) :: [("strconv.ErrRange", Rows.laid_strconv_ErrRange), ("strconv.ErrSyntax", Rows.laid_strconv_ErrSyntax)]) W := by rw [← e2]; exact h2
  have hpow := Lib.tabIs_of_head (g := 2) (t := 115) (e := 64) (n := 20) (by kernel_rfl) (by kernel_rfl) (by kernel_rfl) (by kernel_rfl) (by kernel_rfl) (by kernel_rfl) h2'
  obtain ⟨a1, t1, hv1, _⟩ := laid_sentinel (g := 1) (ti := 49) (tp := 124) (te := 126) (ts := 9) h3 (by kernel_rfl) (by kernel_rfl) Tryz.underlying49 rowE Tryz.underlying124 Tryz.underlying126 rfl rfl Tryz.underlying9 (by kernel_rfl) (by kernel_rfl)
  obtain ⟨a0, t0, hv0, _⟩ := laid_sentinel (g := 0) (ti := 49) (tp := 124) (te := 126) (ts := 9) h4 (by kernel_rfl) (by kernel_rfl) Tryz.underlying49 rowE Tryz.underlying124 Tryz.underlying126 rfl rfl Tryz.underlying9 (by kernel_rfl) (by kernel_rfl)
  obtain ⟨m, hm⟩ := cell_of_shapedOpen_int (P := Tryz.prog) (g := 3) (t := 3) (zero := #[.int .i64 0]) hsh (of_decide_eq_true (by kernel_rfl)) (by kernel_rfl) rfl (by kernel_rfl) (by kernel_rfl) Tryz.underlying3
  refine ⟨hpow, ⟨_, _, hv0⟩, ⟨_, _, hv1⟩, ⟨m, hm⟩, ?_⟩
  rcases Nat.lt_or_ge 3 W.heap.size with h | h
  · exact h
  · simp only [World.cell?, Array.getElem?_eq_none h] at hm
    simp at hm

theorem witness (os : Os) (H : Type) (enc : TypeId × Value → H) : ∃ (w : World) (tape : Tape) (i : Input), w.os = os ∧ (w.forCall tape i).Shaped Tryz.prog ∧ i.vars = [] ∧ Input.okWide Tryz.prog (w.forCall tape i) .any w.heap.size 4 i ∧
      (OpenSpec.ofChange Rows.showReadsSpec).preRow enc Tryz.prog Tryz.f4 Rows.showReadsRow.domain false Rows.showReadsRow.laid (w.forCall tape i).memory i.args ∧ ({} : Assume).holds Tryz.prog (lone (Frame.enter Tryz.prog 4 i.args .normal) [] (w.forCall tape i)) := by
  have hok : Input.okWideB Tryz.prog ((laidW os).forCall (fun _ _ => 0) ⟨#[], #[.string ⟨#[]⟩], []⟩) 4 ⟨#[], #[.string ⟨#[]⟩], []⟩ = true := by kernel_rfl
  exact ⟨laidW os, fun _ _ => 0, ⟨#[], #[.string ⟨#[]⟩], []⟩, World.laidAll_os _ _ _, World.shaped_of_ZipB (by kernel_rfl) (by kernel_rfl), (Input.okWide_of_okWideB (base := 0) hok).1, (Input.okWide_of_okWideB hok).2,
    OpenSpec.preRow_of_B rfl 8 (by kernel_rfl) (by kernel_rfl) (laid_met os _), by
    simp only [Assume.holds]
    exact ⟨by simp, by simp, fun _ => Modest.zero, by simp, by simp⟩⟩

set_option maxRecDepth 100000 in
theorem lifted (os : Os) (started : os.Started) (H : Type) (enc : TypeId × Value → H) (F : Stop.Interp) :
    ReturnsInHanded {} Tryz.checked os 4 .any ((OpenSpec.ofChange Rows.showReadsSpec).preRow enc Tryz.prog Tryz.f4 Rows.showReadsRow.domain false Rows.showReadsRow.laid) (((OpenSpec.ofChange Rows.showReadsSpec).at F).post enc Tryz.prog Tryz.f4 false true false false) := by
  refine returnsInHanded_of_row (C := Tryz.checked) (s := OpenSpec.ofChange Rows.showReadsSpec) own started (by kernel_rfl) Tryz.func4 (witness os H enc) ?_
  intro W base args ds gs before hval0 hW _ _ _ hL hsh _
  have hval : ∀ (j : Nat) t v, Tryz.f4.params[j]? = some t → args[j]? = some v → Value.okWide Tryz.prog W .any base t v := hval0
  have hW' := hW
  obtain ⟨p, q, hA0, hV0, rfl, _, _⟩ := hW
  have hA : DataW.TrodAll enc Tryz.prog W 0 (fun _ => true) true Tryz.f4.params.toList args.toList ds p := hA0
  rw [Tryz.params4] at hA hval
  obtain ⟨v0, d0, rfl, rfl, h0⟩ := trodAll_one hA
  obtain ⟨rfl, rfl⟩ := trodVars_none hV0
  obtain ⟨s, rfl, rfl, rfl, ws⟩ := open_string Tryz.underlying9 (hval 0 9 v0 rfl rfl) h0
  have hc : Calls Tryz.prog 4 #[.string s] W fun e w' => e = .returned (.bool true) ∧ Below W.heap.size W w' := calls_of (wok hL hsh) (reads_run s.data.toList 21 0 [] (Nat.le_refl _)) (by simp) rfl
  refine hc.mono fun e W' ⟨he, bel⟩ => ?_
  subst he
  exact ⟨_, rfl, _, _, _, [], [], [], hW', trodAll_mk1 (shut_bool Tryz.underlying4 _), trodAll_mk1 (shut_string Tryz.underlying9 ws), rfl, bel.frame _, fun h => by cases h⟩

theorem row_holds : Rows.ShowReadsSaid :=
  OpenClaim.holds_of_cond 4 Tryz.f4 rfl rfl rfl rfl rfl rfl rfl ⟨rfl, rfl, rfl, rfl, rfl⟩ rfl rfl rfl rfl rfl (by kernel_rfl) Tryz.func4 (by kernel_rfl)
    (of_decide_eq_true (by kernel_rfl)) (by unfold Func.isWrapper; first | (rw [if_pos (by decide +kernel)]; kernel_rfl) | (rw [if_neg (by decide +kernel)]; exact ⟨rfl, rfl⟩))
    (fun os started H enc _ F => by rw [OpenClaim.pre_eq_preRow]; exact lifted os started H enc F)
end Go.Proofs.YtcaogimdpcaohaaGreatDoor.VShowReads

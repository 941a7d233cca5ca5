/- A part of the proof: see the last text of this claim. -/
import Derived.Test.YtffclchaoifleaaGreatDoorS2
import Derived.Test.YtffclchaoifleaaGreatDoorZ4
import Derived.Test.YtffclchaoifleaaGreatDoorLvG
import Derived.JoinedCond
import Derived.Test.YtffclchaoifleaaGreatDoorRows
import Derived.Deep.DeepHandedRow
import Derived.Lay
import Derived.LaidLaws
import Derived.LaidHandle
import Derived.Stop.LaidErr
import Derived.Stop.Joined
import Derived.Lib.LaidTab
import Derived.ProofKit
import Derived.OpenShut
import Derived.ShutString
import Derived.SizedLaws
import Derived.Shelf.Vars
set_option linter.unusedVariables false
set_option linter.unusedSimpArgs false
set_option linter.constructorNameAsVariable false
namespace Go.Proofs.YtffclchaoifleaaGreatDoor.VSeqStores
open Go Go.Lev Go.Lev.Seat Go.RowKit Go.ChangeShapes Go.WideShapes Go.ChangeAt
open Go.ChangeMaps (open_string shut_string)
set_option linter.unusedVariables false

theorem laidOut : laidOutB Tryz.prog = true := by kernel_rfl
theorem own : ownKnob Tryz.prog.godebug = none := by kernel_rfl

noncomputable def laidAll : List (String × DataW Unit) := Rows.seqStoresRow.laid
noncomputable def laidW (os : Os) : World := World.laidAll Tryz.prog os Rows.seqStoresRow.laid

theorem laid_met (os : Os) (args : Array Value) : laidMetH Tryz.prog Rows.seqStoresRow.laid ((laidW os).forCall (fun _ _ => 0) ⟨#[], args, []⟩).memory :=
  laidMet_laidAll args (by kernel_rfl) (by kernel_rfl)

theorem star : "*" ++ "errors.errorString" = "*errors.errorString" := by decide

theorem wok {W : World} (hL : laidMetH Tryz.prog Rows.seqStoresRow.laid W) (hsh : W.ShapedOpen Tryz.prog) : WOK W := by
  have h0 : laidMet Tryz.prog Rows.seqStoresRow.laid W := hL
  have h1 := laidMet.tail h0
  have h2 := laidMet.tail h1
  have h3 := laidMet.tail h2
  have h4 := laidMet.tail h3
  have rowE : ∀ u, Tryz.prog.typeName? 3 u = some "*errors.errorString" → u = 239 := fun u h =>
    typeName_ptr_named (nm := "errors.errorString") (by rw [star]; kernel_rfl) (by kernel_rfl) (by decide) u (by rw [star]; exact h)
  have e2 : Rows.laid_internal_strconv_uint64pow10 = Lib.tabData (H := Unit) .u64 Lib.pow10Tab := by kernel_rfl
  have h5 := laidMet.tail h4
  have h2' : laidMet Tryz.prog (("internal/strconv.uint64pow10", Lib.tabData .u64 Lib.pow10Tab) :: [("unicode/utf8.acceptRanges", Rows.laid_unicode_utf8_acceptRanges), ("strconv.ErrRange", Rows.laid_strconv_ErrRange), ("strconv.ErrSyntax", Rows.laid_strconv_ErrSyntax), ("unicode/utf8.first", Rows.laid_unicode_utf8_first)]) W := by rw [← e2]; exact h2
  have hpow := Lib.tabIs_of_head (g := 0) (t := 178) (e := 35) (n := 20) (by kernel_rfl) (by kernel_rfl) (by kernel_rfl) (by kernel_rfl) (by kernel_rfl) (by kernel_rfl) h2'
  obtain ⟨a1, t1, hv1, _⟩ := laid_sentinel (g := 7) (ti := 173) (tp := 239) (te := 241) (ts := 9) h4 (by kernel_rfl) (by kernel_rfl) Tryz.underlying173 rowE Tryz.underlying239 Tryz.underlying241 rfl rfl Tryz.underlying9 (by kernel_rfl) (by kernel_rfl)
  obtain ⟨a0, t0, hv0, _⟩ := laid_sentinel (g := 6) (ti := 173) (tp := 239) (te := 241) (ts := 9) h5 (by kernel_rfl) (by kernel_rfl) Tryz.underlying173 rowE Tryz.underlying239 Tryz.underlying241 rfl rfl Tryz.underlying9 (by kernel_rfl) (by kernel_rfl)
  obtain ⟨m, hm⟩ := cell_of_shapedOpen_int (P := Tryz.prog) (g := 5) (t := 3) (zero := #[.int .i64 0]) hsh (of_decide_eq_true (by kernel_rfl)) (by kernel_rfl) rfl (by kernel_rfl) (by kernel_rfl) Tryz.underlying3
  refine ⟨hpow, ⟨_, _, hv0⟩, ⟨_, _, hv1⟩, ⟨m, hm⟩, ?_⟩
  rcases Nat.lt_or_ge 5 W.heap.size with h | h
  · exact h
  · simp only [World.cell?, Array.getElem?_eq_none h] at hm
    simp at hm

theorem witness (os : Os) (H : Type) (enc : TypeId × Value → H) : ∃ (w : World) (tape : Tape) (i : Input), w.os = os ∧ (w.forCall tape i).Shaped Tryz.prog ∧ i.vars = [] ∧ Input.okWide Tryz.prog (w.forCall tape i) .any w.heap.size 7 i ∧
      (OpenSpec.ofChange Rows.seqStoresSpec).preRow enc Tryz.prog Tryz.f7 Rows.seqStoresRow.domain false Rows.seqStoresRow.laid (w.forCall tape i).memory i.args ∧ ({} : Assume).holds Tryz.prog (lone (Frame.enter Tryz.prog 7 i.args .normal) [] (w.forCall tape i)) := by
  have hok : Input.okWideB Tryz.prog ((laidW os).forCall (fun _ _ => 0) ⟨#[], #[.int .u8 0, .int .u64 0, .int .u8 0], []⟩) 7 ⟨#[], #[.int .u8 0, .int .u64 0, .int .u8 0], []⟩ = true := by kernel_rfl
  exact ⟨laidW os, fun _ _ => 0, ⟨#[], #[.int .u8 0, .int .u64 0, .int .u8 0], []⟩, World.laidAll_os _ _ _, World.shaped_of_ZipB (by kernel_rfl) (by kernel_rfl), (Input.okWide_of_okWideB (base := 0) hok).1, (Input.okWide_of_okWideB hok).2,
    OpenSpec.preRow_of_B rfl 8 (by kernel_rfl) (by kernel_rfl) (laid_met os _), by
    simp only [Assume.holds]
    exact ⟨by simp, by simp, fun _ => Modest.zero, by simp, by simp⟩⟩

set_option maxRecDepth 100000 in
theorem lifted (os : Os) (started : os.Started) (H : Type) (enc : TypeId × Value → H) (F : Stop.Interp) :
    ReturnsInHanded {} Tryz.checked os 7 .any ((OpenSpec.ofChange Rows.seqStoresSpec).preRow enc Tryz.prog Tryz.f7 Rows.seqStoresRow.domain false Rows.seqStoresRow.laid) (((OpenSpec.ofChange Rows.seqStoresSpec).at F).post enc Tryz.prog Tryz.f7 false true false false) := by
  refine returnsInHanded_of_row (C := Tryz.checked) (s := OpenSpec.ofChange Rows.seqStoresSpec) own started (by kernel_rfl) Tryz.func7 (witness os H enc) ?_
  intro W base args ds gs before hval0 hW _ _ _ hL hsh _
  have hval : ∀ (j : Nat) t v, Tryz.f7.params[j]? = some t → args[j]? = some v → Value.okWide Tryz.prog W .any base t v := hval0
  have hW' := hW
  obtain ⟨p, q, hA0, hV0, rfl, _, _⟩ := hW
  have hA : DataW.TrodAll enc Tryz.prog W 0 (fun _ => true) true Tryz.f7.params.toList args.toList ds p := hA0
  rw [Tryz.params7] at hA hval
  obtain ⟨v0, v1, v2, d0, d1, d2, p0, p1, p2, rfl, rfl, rfl, h0, h1, h2⟩ := trodAll_three hA
  obtain ⟨rfl, rfl⟩ := trodVars_none hV0
  obtain ⟨a, rfl, rfl, rfl, wa⟩ := open_int Tryz.underlying5 (hval 0 5 v0 rfl rfl) h0
  obtain ⟨v, rfl, rfl, rfl, wv⟩ := open_int Tryz.underlying35 (hval 1 35 v1 rfl rfl) h1
  obtain ⟨n, rfl, rfl, rfl, wn⟩ := open_int Tryz.underlying5 (hval 2 5 v2 rfl rfl) h2
  have ra : 0 ≤ a ∧ a < 256 := by simp [Lit.wf, IntKind.min, IntKind.max, IntKind.bits, IntKind.signed] at wa; omega
  have rv : 0 ≤ v ∧ v < 18446744073709551616 := by simp [Lit.wf, IntKind.min, IntKind.max, IntKind.bits, IntKind.signed] at wv; omega
  have rn : 0 ≤ n ∧ n < 256 := by simp [Lit.wf, IntKind.min, IntKind.max, IntKind.bits, IntKind.signed] at wn; omega
  have hc : Calls Tryz.prog 7 #[.int .u8 a, .int .u64 v, .int .u8 n] W fun e w' => e = .returned (.bool true) ∧ Below W.heap.size W w' := calls_of (wok hL hsh) (stores_run a v n ra rv rn.1 21 0 [] (Nat.le_refl _)) rfl rfl
  refine hc.mono fun e W' ⟨he, bel⟩ => ?_
  subst he
  exact ⟨_, rfl, _, _, _, [], [], [], hW', trodAll_mk1 (shut_bool Tryz.underlying4 _), trodAll_mk3 (shut_int Tryz.underlying5 wa) (shut_int Tryz.underlying35 wv) (shut_int Tryz.underlying5 wn), rfl, bel.frame _, fun h => by cases h⟩

theorem row_holds : Rows.SeqStoresSaid :=
  OpenClaim.holds_of_cond 7 Tryz.f7 rfl rfl rfl rfl rfl rfl rfl ⟨rfl, rfl, rfl, rfl, rfl⟩ rfl rfl rfl rfl rfl (by kernel_rfl) Tryz.func7 (by kernel_rfl)
    (of_decide_eq_true (by kernel_rfl)) (by unfold Func.isWrapper; first | (rw [if_pos (by decide +kernel)]; kernel_rfl) | (rw [if_neg (by decide +kernel)]; exact ⟨rfl, rfl⟩))
    (fun os started H enc _ F => by rw [OpenClaim.pre_eq_preRow]; exact lifted os started H enc F)
end Go.Proofs.YtffclchaoifleaaGreatDoor.VSeqStores

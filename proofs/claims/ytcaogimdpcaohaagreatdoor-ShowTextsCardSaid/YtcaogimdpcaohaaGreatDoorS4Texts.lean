/- ShowTexts: every instruction's text, or that it isn't right, is the document's, for every instruction. Conditions: none beyond the given card's own. -/
import Derived.Test.YtcaogimdpcaohaaGreatDoorS3Texts
import Derived.Test.YtcaogimdpcaohaaGreatDoorTie
import Derived.Test.YtcaogimdpcaohaaGreatDoorCards
import Derived.SevenTiedAt
set_option linter.unusedVariables false
set_option linter.unusedSimpArgs false
set_option linter.constructorNameAsVariable false

namespace Go.Proofs.YtcaogimdpcaohaaGreatDoor
open Go

theorem texts_tie : Rows.showTextsRow.laidByTextAt .later Tryz.pinned [.data, .data, .data, .sentinel, .sentinel] true :=
  OpenClaim.laidByTextAt_later rfl rfl tie (by kernel_rfl)

theorem showTexts_holds : Rows.ShowTextsCardSaid :=
  Claim7.holds_tied_plain_at .later [] [.data, .data, .data, .sentinel, .sentinel] true (true, "d3b1151a93de85a170bf39d249254e9d292579c72c97ab55d9446f56ef6e50f5") true
    VShowTexts.row_holds (fun _ h => by cases h) (by kernel_rfl) (fun _ h => by cases h) texts_tie rfl ⟨rfl, rfl⟩ (by kernel_rfl) rfl
    (fun f fn hf hfn => by
      obtain rfl : f = 3 := Option.some.inj ((show Tryz.prog.funcNamed "undertow/undertowlaw09.ShowTexts" = some 3 by kernel_rfl).symm.trans hf) |>.symm
      obtain rfl : fn = Tryz.f3 := (Option.some.inj (Tryz.func3.symm.trans hfn)).symm
      exact ⟨by kernel_rfl, fun j t ht => by
        rw [Tryz.params3] at ht
        have h3 : t = 23 := by
          rcases j with _ | j
          · simpa using ht.symm
          · simp at ht
        rcases h3 with rfl
        exact (show Tryz.prog.wantsStandIn 23 = false by kernel_rfl)⟩)
    (by kernel_rfl)
#print axioms showTexts_holds
end Go.Proofs.YtcaogimdpcaohaaGreatDoor

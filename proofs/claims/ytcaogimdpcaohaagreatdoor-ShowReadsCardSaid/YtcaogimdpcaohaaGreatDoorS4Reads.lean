/- ShowReads: every text's instruction, or that there is none, is the document's, for every text (a text above 200 bytes is let by by the law itself). Conditions: none beyond the given card's own. -/
import Derived.Test.YtcaogimdpcaohaaGreatDoorS3Reads
import Derived.Test.YtcaogimdpcaohaaGreatDoorTie
import Derived.Test.YtcaogimdpcaohaaGreatDoorCards
import Derived.SevenTiedAt
set_option linter.unusedVariables false
set_option linter.unusedSimpArgs false
set_option linter.constructorNameAsVariable false

namespace Go.Proofs.YtcaogimdpcaohaaGreatDoor
open Go

theorem showReads_tie : Rows.showReadsRow.laidByTextAt .later Tryz.pinned [.data, .data, .data, .sentinel, .sentinel] true :=
  OpenClaim.laidByTextAt_later rfl rfl tie (by kernel_rfl)

theorem showReads_holds : Rows.ShowReadsCardSaid :=
  Claim7.holds_tied_plain_at .later [] [.data, .data, .data, .sentinel, .sentinel] true (true, "d3b1151a93de85a170bf39d249254e9d292579c72c97ab55d9446f56ef6e50f5") true
    VShowReads.row_holds (fun _ h => by cases h) (by kernel_rfl) (fun _ h => by cases h) showReads_tie rfl ⟨rfl, rfl⟩ (by kernel_rfl) rfl
    (fun f fn hf hfn => by
      obtain rfl : f = 4 := Option.some.inj ((show Tryz.prog.funcNamed "undertow/undertowlaw09.ShowReads" = some 4 by kernel_rfl).symm.trans hf) |>.symm
      obtain rfl : fn = Tryz.f4 := (Option.some.inj (Tryz.func4.symm.trans hfn)).symm
      exact ⟨by kernel_rfl, fun j t ht => by
        rw [Tryz.params4] at ht
        have h3 : t = 9 := by
          rcases j with _ | j
          · simpa using ht.symm
          · simp at ht
        rcases h3 with rfl
        · exact (show Tryz.prog.wantsStandIn 9 = false by kernel_rfl)⟩)
    (by kernel_rfl)
#print axioms showReads_holds
end Go.Proofs.YtcaogimdpcaohaaGreatDoor

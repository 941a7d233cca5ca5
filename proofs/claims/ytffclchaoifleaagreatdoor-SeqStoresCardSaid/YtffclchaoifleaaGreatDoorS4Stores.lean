/- SeqStores: a store that is loaded again by the same size is what was stored, for every place, value and size. Conditions: none beyond the given card's own. -/
import Derived.Test.YtffclchaoifleaaGreatDoorS3Stores
import Derived.Test.YtffclchaoifleaaGreatDoorTie
import Derived.Test.YtffclchaoifleaaGreatDoorCards
import Derived.SevenTiedAt
set_option linter.unusedVariables false
set_option linter.unusedSimpArgs false
set_option linter.constructorNameAsVariable false

namespace Go.Proofs.YtffclchaoifleaaGreatDoor
open Go
set_option maxRecDepth 100000


theorem seqStores_holds : Rows.SeqStoresCardSaid :=
  Claim7.holds_tied_plain_at .later [] [.data, .data, .data, .data, .sentinel, .sentinel, .pinned] true (true, "8ae0a81a1531f30367f17e7f99cb556f084a7301e6dad15160268843356bd337") true
    VSeqStores.row_holds (fun _ h => by cases h) (by kernel_rfl) (fun _ h => by cases h) seqStores_row_tie rfl ⟨rfl, rfl⟩ (by kernel_rfl) rfl
    (fun f fn hf hfn => by
      obtain rfl : f = 7 := Option.some.inj ((show Tryz.prog.funcNamed "undertow/undertowlaw11.SeqStores" = some 7 by kernel_rfl).symm.trans hf) |>.symm
      obtain rfl : fn = Tryz.f7 := (Option.some.inj (Tryz.func7.symm.trans hfn)).symm
      exact ⟨by kernel_rfl, fun j t ht => by
        rw [Tryz.params7] at ht
        have h3 : t = 5 ∨ t = 35 := by
          rcases j with _ | _ | _ | j
          · left; simpa using ht.symm
          · right; simpa using ht.symm
          · left; simpa using ht.symm
          · simp at ht
        rcases h3 with rfl | rfl
        · exact (show Tryz.prog.wantsStandIn 5 = false by kernel_rfl)
        · exact (show Tryz.prog.wantsStandIn 35 = false by kernel_rfl)⟩)
    (by kernel_rfl)
#print axioms seqStores_holds
end Go.Proofs.YtffclchaoifleaaGreatDoor

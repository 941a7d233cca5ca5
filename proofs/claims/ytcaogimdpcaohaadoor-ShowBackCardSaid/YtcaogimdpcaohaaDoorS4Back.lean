/- ShowBack: Read of Text is the instruction, Text of Read is the text, unlike right instructions have unlike texts, for all instructions and texts (a text above 200 bytes is let by by the law itself). Conditions: none beyond the given card's own. -/
import Derived.Test.YtcaogimdpcaohaaDoorS3Back
import Derived.Test.YtcaogimdpcaohaaDoorTie
import Derived.Test.YtcaogimdpcaohaaDoorCards
import Derived.SevenTiedAt
set_option linter.unusedVariables false
set_option linter.unusedSimpArgs false
set_option linter.constructorNameAsVariable false

namespace Go.Proofs.YtcaogimdpcaohaaDoor
open Go

theorem showBack_tie : Rows.showBackRow.laidByTextAt .later Tryd.pinned [.data, .data, .data, .sentinel, .sentinel] true :=
  OpenClaim.laidByTextAt_later rfl rfl tie (by kernel_rfl)

theorem showBack_holds : Rows.ShowBackCardSaid :=
  Claim7.holds_tied_plain_at .later [] [.data, .data, .data, .sentinel, .sentinel] true (true, "cafd21447b6f17dc47fad6887eaa04b873146ff47e067c25791d42517a23c24d") true
    VShowBack.row_holds (fun _ h => by cases h) (by kernel_rfl) (fun _ h => by cases h) showBack_tie rfl ⟨rfl, rfl⟩ (by kernel_rfl) rfl
    (fun f fn hf hfn => by
      obtain rfl : f = 4 := Option.some.inj ((show Tryd.prog.funcNamed "undertow/undertowlaw09.ShowBack" = some 4 by kernel_rfl).symm.trans hf) |>.symm
      obtain rfl : fn = Tryd.f4 := (Option.some.inj (Tryd.func4.symm.trans hfn)).symm
      exact ⟨by kernel_rfl, fun j t ht => by
        rw [Tryd.params4] at ht
        have h3 : t = 30 ∨ t = 9 := by
          rcases j with _ | _ | _ | j
          · left; simpa using ht.symm
          · left; simpa using ht.symm
          · right; simpa using ht.symm
          · simp at ht
        rcases h3 with rfl | rfl
        · exact (show Tryd.prog.wantsStandIn 30 = false by kernel_rfl)
        · exact (show Tryd.prog.wantsStandIn 9 = false by kernel_rfl)⟩)
    (by kernel_rfl)
#print axioms showBack_holds
end Go.Proofs.YtcaogimdpcaohaaDoor

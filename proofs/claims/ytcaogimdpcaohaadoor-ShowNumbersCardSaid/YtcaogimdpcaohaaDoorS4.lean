/- ShowNumbers: every text's number and register, or that there is none, are the document's, for every text and every int64 (a text above 200 bytes is let by by the law itself). Conditions: none beyond the given card's own. -/
import Derived.Test.YtcaogimdpcaohaaDoorS3
import Derived.Test.YtcaogimdpcaohaaDoorTie
import Derived.Test.YtcaogimdpcaohaaDoorCards
import Derived.SevenTiedAt
namespace Go.Proofs.YtcaogimdpcaohaaDoor
open Go

theorem numbers_tie : Rows.showNumbersRow.laidByTextAt .later Tryd.pinned [.data, .data, .data, .sentinel, .sentinel] true :=
  OpenClaim.laidByTextAt_later rfl rfl tie (by kernel_rfl)

theorem showNumbers_holds : Rows.ShowNumbersCardSaid :=
  Claim7.holds_tied_plain_at .later [] [.data, .data, .data, .sentinel, .sentinel] true (true, "cafd21447b6f17dc47fad6887eaa04b873146ff47e067c25791d42517a23c24d") true
    V.numbers_row (fun _ h => by cases h) (by kernel_rfl) (fun _ h => by cases h) numbers_tie rfl ⟨rfl, rfl⟩ (by kernel_rfl) rfl
    (fun f fn hf hfn => by
      obtain rfl : f = 3 := Option.some.inj ((show Tryd.prog.funcNamed "undertow/undertowlaw09.ShowNumbers" = some 3 by kernel_rfl).symm.trans hf) |>.symm
      obtain rfl : fn = Tryd.f3 := (Option.some.inj (Tryd.func3.symm.trans hfn)).symm
      exact ⟨by kernel_rfl, fun j t ht => by
        rw [Tryd.params3] at ht
        have h3 : t = 9 ∨ t = 2 := by
          rcases j with _ | _ | j
          · left; simpa using ht.symm
          · right; simpa using ht.symm
          · simp at ht
        rcases h3 with rfl | rfl
        · exact (show Tryd.prog.wantsStandIn 9 = false by kernel_rfl)
        · exact (show Tryd.prog.wantsStandIn 2 = false by kernel_rfl)⟩)
    (by kernel_rfl)
#print axioms showNumbers_holds
end Go.Proofs.YtcaogimdpcaohaaDoor

/-
  DERIVED. GIVEN WITH THE SEED: THE CARDS: each row of YtcaogimdpcaohaaDoorRows.lean that lists a variable, with what it lists TIED to the program's text (the seventh form; the later family's looks); each row that meets fmt, with fmt's text TOLD by the authors' own Lean function (tested against real Go, not proved from fmt's source: count such statements apart). THE CARD IS WHAT COUNTS. Prove the row's statement (the work); the ties are given (YtcaogimdpcaohaaDoorTie.lean); close each card by the builder's one call (the guide's Derived/Test/ToyasCard.lean, 'card_holds'). Laid BY PROGRAM, IN A SANDBOX (cutbox-door.mjs). By AI agents, Wed Nov 11 2026. No macro, syntax, notation, axiom, sorry.
-/
import Derived.Test.YtcaogimdpcaohaaDoorRows
import GoSem.ClaimSeven
namespace Go.Proofs.YtcaogimdpcaohaaDoor
namespace Rows

/-- THE TIED CARD OF 'undertowlaw09.ShowNumbers'. -/
def showNumbersCard : Claim7 := { stood := { row := showNumbersRow, standIns := [], harness := (true, "cafd21447b6f17dc47fad6887eaa04b873146ff47e067c25791d42517a23c24d"), looks := true }, kinds := [], alts := [], laidByText := true, laidKinds := [.data, .data, .data, .sentinel, .sentinel], laidTests := true, laidLooks := .later }
def ShowNumbersCardSaid : Prop := Claim7.holds Tryd.pinned (.plain (OpenSpec.ofChange showNumbersSpec)) showNumbersCard

/-- THE TIED CARD OF 'undertowlaw09.ShowBack'. -/
def showBackCard : Claim7 := { stood := { row := showBackRow, standIns := [], harness := (true, "cafd21447b6f17dc47fad6887eaa04b873146ff47e067c25791d42517a23c24d"), looks := true }, kinds := [], alts := [], laidByText := true, laidKinds := [.data, .data, .data, .sentinel, .sentinel], laidTests := true, laidLooks := .later }
def ShowBackCardSaid : Prop := Claim7.holds Tryd.pinned (.plain (OpenSpec.ofChange showBackSpec)) showBackCard

/-- THE SECOND FORM's CARD OF 'undertowlaw09.ShowNumbers'. -/
def showNumbersUptoCard : Claim7 := { stood := { row := showNumbersUptoRow, standIns := [], harness := (true, "cafd21447b6f17dc47fad6887eaa04b873146ff47e067c25791d42517a23c24d"), looks := true }, kinds := [], alts := [], laidByText := true, laidKinds := [.data, .data, .data, .sentinel, .sentinel], laidTests := true, laidLooks := .later }
def ShowNumbersUptoCardSaid : Prop := Claim7.holds Tryd.pinned (.plain (OpenSpec.upto showNumbersSpec)) showNumbersUptoCard

/-- THE SECOND FORM's CARD OF 'undertowlaw09.ShowBack'. -/
def showBackUptoCard : Claim7 := { stood := { row := showBackUptoRow, standIns := [], harness := (true, "cafd21447b6f17dc47fad6887eaa04b873146ff47e067c25791d42517a23c24d"), looks := true }, kinds := [], alts := [], laidByText := true, laidKinds := [.data, .data, .data, .sentinel, .sentinel], laidTests := true, laidLooks := .later }
def ShowBackUptoCardSaid : Prop := Claim7.holds Tryd.pinned (.plain (OpenSpec.upto showBackSpec)) showBackUptoCard
end Rows
end Go.Proofs.YtcaogimdpcaohaaDoor

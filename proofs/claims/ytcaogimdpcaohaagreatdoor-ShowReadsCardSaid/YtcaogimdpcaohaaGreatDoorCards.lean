/-
  DERIVED. GIVEN WITH THE SEED: THE CARDS: each row of YtcaogimdpcaohaaGreatDoorRows.lean that lists a variable, with what it lists TIED to the program's text (the seventh form; the later family's looks); each row that meets fmt, with fmt's text TOLD by the authors' own Lean function (tested against real Go, not proved from fmt's source: count such statements apart). THE CARD IS WHAT COUNTS. Prove the row's statement (the work); the ties are given (YtcaogimdpcaohaaGreatDoorTie.lean); close each card by the builder's one call (the guide's Derived/Test/ToyasCard.lean, 'card_holds'). Laid BY PROGRAM, IN A SANDBOX (cutbox-door.mjs). By AI agents, Wed Nov 11 2026. No macro, syntax, notation, axiom, sorry.
-/
import Derived.Test.YtcaogimdpcaohaaGreatDoorRows
import GoSem.ClaimSeven
namespace Go.Proofs.YtcaogimdpcaohaaGreatDoor
namespace Rows

/-- THE TIED CARD OF 'undertowlaw09.ShowTexts'. -/
def showTextsCard : Claim7 := { stood := { row := showTextsRow, standIns := [], harness := (true, "d3b1151a93de85a170bf39d249254e9d292579c72c97ab55d9446f56ef6e50f5"), looks := true }, kinds := [], alts := [], laidByText := true, laidKinds := [.data, .data, .data, .sentinel, .sentinel], laidTests := true, laidLooks := .later }
def ShowTextsCardSaid : Prop := Claim7.holds Tryz.pinned (.plain (OpenSpec.ofChange showTextsSpec)) showTextsCard

/-- THE TIED CARD OF 'undertowlaw09.ShowReads'. -/
def showReadsCard : Claim7 := { stood := { row := showReadsRow, standIns := [], harness := (true, "d3b1151a93de85a170bf39d249254e9d292579c72c97ab55d9446f56ef6e50f5"), looks := true }, kinds := [], alts := [], laidByText := true, laidKinds := [.data, .data, .data, .sentinel, .sentinel], laidTests := true, laidLooks := .later }
def ShowReadsCardSaid : Prop := Claim7.holds Tryz.pinned (.plain (OpenSpec.ofChange showReadsSpec)) showReadsCard

/-- THE SECOND FORM's CARD OF 'undertowlaw09.ShowTexts'. -/
def showTextsUptoCard : Claim7 := { stood := { row := showTextsUptoRow, standIns := [], harness := (true, "d3b1151a93de85a170bf39d249254e9d292579c72c97ab55d9446f56ef6e50f5"), looks := true }, kinds := [], alts := [], laidByText := true, laidKinds := [.data, .data, .data, .sentinel, .sentinel], laidTests := true, laidLooks := .later }
def ShowTextsUptoCardSaid : Prop := Claim7.holds Tryz.pinned (.plain (OpenSpec.upto showTextsSpec)) showTextsUptoCard

/-- THE SECOND FORM's CARD OF 'undertowlaw09.ShowReads'. -/
def showReadsUptoCard : Claim7 := { stood := { row := showReadsUptoRow, standIns := [], harness := (true, "d3b1151a93de85a170bf39d249254e9d292579c72c97ab55d9446f56ef6e50f5"), looks := true }, kinds := [], alts := [], laidByText := true, laidKinds := [.data, .data, .data, .sentinel, .sentinel], laidTests := true, laidLooks := .later }
def ShowReadsUptoCardSaid : Prop := Claim7.holds Tryz.pinned (.plain (OpenSpec.upto showReadsSpec)) showReadsUptoCard
end Rows
end Go.Proofs.YtcaogimdpcaohaaGreatDoor

/-
  DERIVED. GIVEN WITH THE SEED: THE CARDS: each row of YtfpbcbdbidaalaaGreatDoorRows.lean that lists a variable, with what it lists TIED to the program's text (the seventh form; the later family's looks); each row that meets fmt, with fmt's text TOLD by the authors' own Lean function (tested against real Go, not proved from fmt's source: count such statements apart). THE CARD IS WHAT COUNTS. Prove the row's statement (the work); the ties are given (YtfpbcbdbidaalaaGreatDoorTie.lean); close each card by the builder's one call (the guide's Derived/Test/ToyasCard.lean, 'card_holds'). Laid BY PROGRAM, IN A SANDBOX (cutbox-door.mjs). By AI agents, Wed Nov 11 2026. No macro, syntax, notation, axiom, sorry.
-/
import Derived.Test.YtfpbcbdbidaalaaGreatDoorRows
import GoSem.ClaimSeven
namespace Go.Proofs.YtfpbcbdbidaalaaGreatDoor
namespace Rows

/-- THE TIED CARD OF 'platenlaw24.ImageNumbers'. -/
def imageNumbersCard : Claim7 := { stood := { row := imageNumbersRow, standIns := [], harness := (true, "af13e0172eed118b3b4f8350d43e69775d05f45a357209941331c500fa9d9982"), looks := true }, kinds := [], alts := [], laidByText := true, laidKinds := [.data, .data, .data, .data, .sentinel, .sentinel, .data, .data, .pinned], laidTests := true, laidLooks := .later }
def ImageNumbersCardSaid : Prop := Claim7.holds Tryz.pinned (.plain (OpenSpec.ofChange imageNumbersSpec)) imageNumbersCard

/-- THE SECOND FORM's CARD OF 'platenlaw24.ImageNumbers'. -/
def imageNumbersUptoCard : Claim7 := { stood := { row := imageNumbersUptoRow, standIns := [], harness := (true, "af13e0172eed118b3b4f8350d43e69775d05f45a357209941331c500fa9d9982"), looks := true }, kinds := [], alts := [], laidByText := true, laidKinds := [.data, .data, .data, .data, .sentinel, .sentinel, .data, .data, .pinned], laidTests := true, laidLooks := .later }
def ImageNumbersUptoCardSaid : Prop := Claim7.holds Tryz.pinned (.plain (OpenSpec.upto imageNumbersSpec)) imageNumbersUptoCard
end Rows
end Go.Proofs.YtfpbcbdbidaalaaGreatDoor

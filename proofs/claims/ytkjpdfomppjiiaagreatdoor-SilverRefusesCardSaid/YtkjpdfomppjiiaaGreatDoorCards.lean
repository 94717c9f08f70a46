/-
  DERIVED. GIVEN WITH THE SEED: THE CARDS: each row of YtkjpdfomppjiiaaGreatDoorRows.lean that lists a variable, with what it lists TIED to the program's text (the seventh form; the later family's looks); each row that meets fmt, with fmt's text TOLD by the authors' own Lean function (tested against real Go, not proved from fmt's source: count such statements apart). THE CARD IS WHAT COUNTS. Prove the row's statement (the work); the ties are given (YtkjpdfomppjiiaaGreatDoorTie.lean); close each card by the builder's one call (the guide's Derived/Test/ToyasCard.lean, 'card_holds'). Laid BY PROGRAM, IN A SANDBOX (cutbox-door.mjs). By AI agents, Wed Nov 11 2026. No macro, syntax, notation, axiom, sorry.
-/
import Derived.Test.YtkjpdfomppjiiaaGreatDoorRows
import GoSem.ClaimSeven
namespace Go.Proofs.YtkjpdfomppjiiaaGreatDoor
namespace Rows

/-- THE TIED CARD OF 'treenaillaw25.SilverRefuses'. -/
def silverRefusesCard : Claim7 := { stood := { row := silverRefusesRow, standIns := [], harness := (true, "f993077a84fbee8b5ec4996e98d929ef58d1ae86d1b92ebe587418e800dee37d"), looks := true }, kinds := [], alts := [], laidByText := true, laidKinds := [.data, .data], laidTests := true, laidLooks := .later }
def SilverRefusesCardSaid : Prop := Claim7.holds Tryz.pinned (.plain (OpenSpec.ofChange silverRefusesSpec)) silverRefusesCard

/-- THE SECOND FORM's CARD OF 'treenaillaw25.SilverRefuses'. -/
def silverRefusesUptoCard : Claim7 := { stood := { row := silverRefusesUptoRow, standIns := [], harness := (true, "f993077a84fbee8b5ec4996e98d929ef58d1ae86d1b92ebe587418e800dee37d"), looks := true }, kinds := [], alts := [], laidByText := true, laidKinds := [.data, .data], laidTests := true, laidLooks := .later }
def SilverRefusesUptoCardSaid : Prop := Claim7.holds Tryz.pinned (.plain (OpenSpec.upto silverRefusesSpec)) silverRefusesUptoCard
end Rows
end Go.Proofs.YtkjpdfomppjiiaaGreatDoor

/-
  DERIVED. GIVEN WITH THE SEED: THE CARDS: each row of YtahaecieklfhkaaDoorRows.lean that lists a variable, with what it lists TIED to the program's text (the seventh form; the later family's looks); each row that meets fmt, with fmt's text TOLD by the authors' own Lean function (tested against real Go, not proved from fmt's source: count such statements apart). THE CARD IS WHAT COUNTS. Prove the row's statement (the work); the ties are given (YtahaecieklfhkaaDoorTie.lean); close each card by the builder's one call (the guide's Derived/Test/ToyasCard.lean, 'card_holds'). Laid BY PROGRAM, IN A SANDBOX (cutbox-door.mjs). By AI agents, Wed Nov 11 2026. No macro, syntax, notation, axiom, sorry.
-/
import Derived.Test.YtahaecieklfhkaaDoorRows
import GoSem.ClaimSeven
namespace Go.Proofs.YtahaecieklfhkaaDoor
namespace Rows

/-- THE TIED CARD OF 'treenaillaw09.BitsParts'. -/
def bitsPartsCard : Claim7 := { stood := { row := bitsPartsRow, standIns := [], harness := (true, "c54c624bff0b16d7b737700d787b2ca558d4275db1f6d97e2202c5a2522c6e8e"), looks := false }, kinds := [], alts := [], laidByText := true, laidKinds := [.data, .data], laidTests := true, laidLooks := .later }
def BitsPartsCardSaid : Prop := Claim7.holds Tryd.pinned (.plain (OpenSpec.ofChange bitsPartsSpec)) bitsPartsCard

/-- THE TIED CARD OF 'treenaillaw09.BitsTurn'. -/
def bitsTurnCard : Claim7 := { stood := { row := bitsTurnRow, standIns := [], harness := (true, "c54c624bff0b16d7b737700d787b2ca558d4275db1f6d97e2202c5a2522c6e8e"), looks := false }, kinds := [], alts := [], laidByText := true, laidKinds := [.data, .data], laidTests := true, laidLooks := .later }
def BitsTurnCardSaid : Prop := Claim7.holds Tryd.pinned (.plain (OpenSpec.ofChange bitsTurnSpec)) bitsTurnCard

/-- THE TIED CARD OF 'treenaillaw09.BitsPlay'. -/
def bitsPlayCard : Claim7 := { stood := { row := bitsPlayRow, standIns := [], harness := (true, "c54c624bff0b16d7b737700d787b2ca558d4275db1f6d97e2202c5a2522c6e8e"), looks := false }, kinds := [], alts := [], laidByText := true, laidKinds := [.data, .data], laidTests := true, laidLooks := .later }
def BitsPlayCardSaid : Prop := Claim7.holds Tryd.pinned (.plain (OpenSpec.ofChange bitsPlaySpec)) bitsPlayCard

/-- THE TIED CARD OF 'treenaillaw09.BitsNone'. -/
def bitsNoneCard : Claim7 := { stood := { row := bitsNoneRow, standIns := [], harness := (true, "c54c624bff0b16d7b737700d787b2ca558d4275db1f6d97e2202c5a2522c6e8e"), looks := false }, kinds := [], alts := [], laidByText := true, laidKinds := [.data, .data], laidTests := true, laidLooks := .later }
def BitsNoneCardSaid : Prop := Claim7.holds Tryd.pinned (.plain (OpenSpec.ofChange bitsNoneSpec)) bitsNoneCard

/-- THE TIED CARD OF 'treenaillaw10.SpaceGens'. -/
def spaceGensCard : Claim7 := { stood := { row := spaceGensRow, standIns := [], harness := (true, "c54c624bff0b16d7b737700d787b2ca558d4275db1f6d97e2202c5a2522c6e8e"), looks := false }, kinds := [], alts := [], laidByText := true, laidKinds := [.data, .data], laidTests := true, laidLooks := .later }
def SpaceGensCardSaid : Prop := Claim7.holds Tryd.pinned (.plain (OpenSpec.ofChange spaceGensSpec)) spaceGensCard

/-- THE TIED CARD OF 'treenaillaw10.SpaceOnce'. -/
def spaceOnceCard : Claim7 := { stood := { row := spaceOnceRow, standIns := [], harness := (true, "c54c624bff0b16d7b737700d787b2ca558d4275db1f6d97e2202c5a2522c6e8e"), looks := false }, kinds := [], alts := [], laidByText := true, laidKinds := [.data, .data], laidTests := true, laidLooks := .later }
def SpaceOnceCardSaid : Prop := Claim7.holds Tryd.pinned (.plain (OpenSpec.ofChange spaceOnceSpec)) spaceOnceCard

/-- THE TIED CARD OF 'treenaillaw10.SpacePlays'. -/
def spacePlaysCard : Claim7 := { stood := { row := spacePlaysRow, standIns := [], harness := (true, "c54c624bff0b16d7b737700d787b2ca558d4275db1f6d97e2202c5a2522c6e8e"), looks := false }, kinds := [], alts := [], laidByText := true, laidKinds := [.data, .data], laidTests := true, laidLooks := .later }
def SpacePlaysCardSaid : Prop := Claim7.holds Tryd.pinned (.plain (OpenSpec.ofChange spacePlaysSpec)) spacePlaysCard

/-- THE TIED CARD OF 'treenaillaw10.SpaceNone'. -/
def spaceNoneCard : Claim7 := { stood := { row := spaceNoneRow, standIns := [], harness := (true, "c54c624bff0b16d7b737700d787b2ca558d4275db1f6d97e2202c5a2522c6e8e"), looks := false }, kinds := [], alts := [], laidByText := true, laidKinds := [.data, .data], laidTests := true, laidLooks := .later }
def SpaceNoneCardSaid : Prop := Claim7.holds Tryd.pinned (.plain (OpenSpec.ofChange spaceNoneSpec)) spaceNoneCard

/-- THE SECOND FORM's CARD OF 'treenaillaw09.BitsParts'. -/
def bitsPartsUptoCard : Claim7 := { stood := { row := bitsPartsUptoRow, standIns := [], harness := (true, "c54c624bff0b16d7b737700d787b2ca558d4275db1f6d97e2202c5a2522c6e8e"), looks := false }, kinds := [], alts := [], laidByText := true, laidKinds := [.data, .data], laidTests := true, laidLooks := .later }
def BitsPartsUptoCardSaid : Prop := Claim7.holds Tryd.pinned (.plain (OpenSpec.upto bitsPartsSpec)) bitsPartsUptoCard

/-- THE SECOND FORM's CARD OF 'treenaillaw09.BitsTurn'. -/
def bitsTurnUptoCard : Claim7 := { stood := { row := bitsTurnUptoRow, standIns := [], harness := (true, "c54c624bff0b16d7b737700d787b2ca558d4275db1f6d97e2202c5a2522c6e8e"), looks := false }, kinds := [], alts := [], laidByText := true, laidKinds := [.data, .data], laidTests := true, laidLooks := .later }
def BitsTurnUptoCardSaid : Prop := Claim7.holds Tryd.pinned (.plain (OpenSpec.upto bitsTurnSpec)) bitsTurnUptoCard

/-- THE SECOND FORM's CARD OF 'treenaillaw09.BitsPlay'. -/
def bitsPlayUptoCard : Claim7 := { stood := { row := bitsPlayUptoRow, standIns := [], harness := (true, "c54c624bff0b16d7b737700d787b2ca558d4275db1f6d97e2202c5a2522c6e8e"), looks := false }, kinds := [], alts := [], laidByText := true, laidKinds := [.data, .data], laidTests := true, laidLooks := .later }
def BitsPlayUptoCardSaid : Prop := Claim7.holds Tryd.pinned (.plain (OpenSpec.upto bitsPlaySpec)) bitsPlayUptoCard

/-- THE SECOND FORM's CARD OF 'treenaillaw09.BitsNone'. -/
def bitsNoneUptoCard : Claim7 := { stood := { row := bitsNoneUptoRow, standIns := [], harness := (true, "c54c624bff0b16d7b737700d787b2ca558d4275db1f6d97e2202c5a2522c6e8e"), looks := false }, kinds := [], alts := [], laidByText := true, laidKinds := [.data, .data], laidTests := true, laidLooks := .later }
def BitsNoneUptoCardSaid : Prop := Claim7.holds Tryd.pinned (.plain (OpenSpec.upto bitsNoneSpec)) bitsNoneUptoCard

/-- THE SECOND FORM's CARD OF 'treenaillaw10.SpaceGens'. -/
def spaceGensUptoCard : Claim7 := { stood := { row := spaceGensUptoRow, standIns := [], harness := (true, "c54c624bff0b16d7b737700d787b2ca558d4275db1f6d97e2202c5a2522c6e8e"), looks := false }, kinds := [], alts := [], laidByText := true, laidKinds := [.data, .data], laidTests := true, laidLooks := .later }
def SpaceGensUptoCardSaid : Prop := Claim7.holds Tryd.pinned (.plain (OpenSpec.upto spaceGensSpec)) spaceGensUptoCard

/-- THE SECOND FORM's CARD OF 'treenaillaw10.SpaceOnce'. -/
def spaceOnceUptoCard : Claim7 := { stood := { row := spaceOnceUptoRow, standIns := [], harness := (true, "c54c624bff0b16d7b737700d787b2ca558d4275db1f6d97e2202c5a2522c6e8e"), looks := false }, kinds := [], alts := [], laidByText := true, laidKinds := [.data, .data], laidTests := true, laidLooks := .later }
def SpaceOnceUptoCardSaid : Prop := Claim7.holds Tryd.pinned (.plain (OpenSpec.upto spaceOnceSpec)) spaceOnceUptoCard

/-- THE SECOND FORM's CARD OF 'treenaillaw10.SpacePlays'. -/
def spacePlaysUptoCard : Claim7 := { stood := { row := spacePlaysUptoRow, standIns := [], harness := (true, "c54c624bff0b16d7b737700d787b2ca558d4275db1f6d97e2202c5a2522c6e8e"), looks := false }, kinds := [], alts := [], laidByText := true, laidKinds := [.data, .data], laidTests := true, laidLooks := .later }
def SpacePlaysUptoCardSaid : Prop := Claim7.holds Tryd.pinned (.plain (OpenSpec.upto spacePlaysSpec)) spacePlaysUptoCard

/-- THE SECOND FORM's CARD OF 'treenaillaw10.SpaceNone'. -/
def spaceNoneUptoCard : Claim7 := { stood := { row := spaceNoneUptoRow, standIns := [], harness := (true, "c54c624bff0b16d7b737700d787b2ca558d4275db1f6d97e2202c5a2522c6e8e"), looks := false }, kinds := [], alts := [], laidByText := true, laidKinds := [.data, .data], laidTests := true, laidLooks := .later }
def SpaceNoneUptoCardSaid : Prop := Claim7.holds Tryd.pinned (.plain (OpenSpec.upto spaceNoneSpec)) spaceNoneUptoCard
end Rows
end Go.Proofs.YtahaecieklfhkaaDoor

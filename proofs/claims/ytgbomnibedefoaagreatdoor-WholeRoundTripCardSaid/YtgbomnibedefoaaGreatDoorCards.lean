/-
  DERIVED. GIVEN WITH THE SEED: THE CARDS: each row of YtgbomnibedefoaaGreatDoorRows.lean that lists a variable, with what it lists TIED to the program's text (the seventh form; the later family's looks); each row that meets fmt, with fmt's text TOLD by the authors' own Lean function (tested against real Go, not proved from fmt's source: count such statements apart). THE CARD IS WHAT COUNTS. Prove the row's statement (the work); the ties are given (YtgbomnibedefoaaGreatDoorTie.lean); close each card by the builder's one call (the guide's Derived/Test/ToyasCard.lean, 'card_holds'). Laid BY PROGRAM, IN A SANDBOX (cutbox-door.mjs). By AI agents, Wed Nov 11 2026. No macro, syntax, notation, axiom, sorry.
-/
import Derived.Test.YtgbomnibedefoaaGreatDoorRows
import GoSem.ClaimSeven
namespace Go.Proofs.YtgbomnibedefoaaGreatDoor
namespace Rows

/-- THE TIED CARD OF 'backsteptop.WholeRoundTrip'. -/
def wholeRoundTripCard : Claim7 := { stood := { row := wholeRoundTripRow, standIns := [], harness := (true, "a622caef651ed813b08dc9542439348b0bf8206ac77303984daca48f99c8e16f"), looks := true }, kinds := [], alts := [], laidByText := true, laidKinds := [.data, .data, .data, .data, .sentinel, .sentinel], laidTests := true, laidLooks := .later }
def WholeRoundTripCardSaid : Prop := Claim7.holds Tryz.pinned (.plain (OpenSpec.ofChange wholeRoundTripSpec)) wholeRoundTripCard

/-- THE SECOND FORM's CARD OF 'backsteptop.WholeRoundTrip'. -/
def wholeRoundTripUptoCard : Claim7 := { stood := { row := wholeRoundTripUptoRow, standIns := [], harness := (true, "a622caef651ed813b08dc9542439348b0bf8206ac77303984daca48f99c8e16f"), looks := true }, kinds := [], alts := [], laidByText := true, laidKinds := [.data, .data, .data, .data, .sentinel, .sentinel], laidTests := true, laidLooks := .later }
def WholeRoundTripUptoCardSaid : Prop := Claim7.holds Tryz.pinned (.plain (OpenSpec.upto wholeRoundTripSpec)) wholeRoundTripUptoCard
end Rows
end Go.Proofs.YtgbomnibedefoaaGreatDoor

/-
  DERIVED. GIVEN WITH THE SEED: THE CARDS: each row of YtfcfmljndlmkbaaDoorRows.lean that lists a variable, with what it lists TIED to the program's text (the seventh form; the later family's looks); each row that meets fmt, with fmt's text TOLD by the authors' own Lean function (tested against real Go, not proved from fmt's source: count such statements apart). THE CARD IS WHAT COUNTS. Prove the row's statement (the work); the ties are given (YtfcfmljndlmkbaaDoorTie.lean); close each card by the builder's one call (the guide's Derived/Test/ToyasCard.lean, 'card_holds'). Laid BY PROGRAM, IN A SANDBOX (cutbox-door.mjs). By AI agents, Wed Nov 11 2026. No macro, syntax, notation, axiom, sorry.
-/
import Derived.Test.YtfcfmljndlmkbaaDoorRows
import GoSem.ClaimSeven
namespace Go.Proofs.YtfcfmljndlmkbaaDoor
namespace Rows

/-- THE TIED CARD OF 'backsteplaw21.IsaValid'. -/
def isaValidCard : Claim7 := { stood := { row := isaValidRow, standIns := [], harness := (true, "1fac1966f0a52d3c77a7983e6a76ae6773f44c316dd9f20379459e25d848a22d"), looks := false }, kinds := [], alts := [], laidByText := true, laidKinds := [.data], laidTests := true, laidLooks := .later }
def IsaValidCardSaid : Prop := Claim7.holds Tryd.pinned (.plain (OpenSpec.ofChange isaValidSpec)) isaValidCard

/-- THE TIED CARD OF 'backsteplaw21.IsaInverts'. -/
def isaInvertsCard : Claim7 := { stood := { row := isaInvertsRow, standIns := [], harness := (true, "1fac1966f0a52d3c77a7983e6a76ae6773f44c316dd9f20379459e25d848a22d"), looks := false }, kinds := [], alts := [], laidByText := true, laidKinds := [.data], laidTests := true, laidLooks := .later }
def IsaInvertsCardSaid : Prop := Claim7.holds Tryd.pinned (.plain (OpenSpec.ofChange isaInvertsSpec)) isaInvertsCard

/-- THE TIED CARD OF 'backsteplaw21.IsaUnused'. -/
def isaUnusedCard : Claim7 := { stood := { row := isaUnusedRow, standIns := [], harness := (true, "1fac1966f0a52d3c77a7983e6a76ae6773f44c316dd9f20379459e25d848a22d"), looks := false }, kinds := [], alts := [], laidByText := true, laidKinds := [.data], laidTests := true, laidLooks := .later }
def IsaUnusedCardSaid : Prop := Claim7.holds Tryd.pinned (.plain (OpenSpec.ofChange isaUnusedSpec)) isaUnusedCard

/-- THE TIED CARD OF 'backsteplaw21.IsaTwice'. -/
def isaTwiceCard : Claim7 := { stood := { row := isaTwiceRow, standIns := [], harness := (true, "1fac1966f0a52d3c77a7983e6a76ae6773f44c316dd9f20379459e25d848a22d"), looks := false }, kinds := [], alts := [], laidByText := true, laidKinds := [.data], laidTests := true, laidLooks := .later }
def IsaTwiceCardSaid : Prop := Claim7.holds Tryd.pinned (.plain (OpenSpec.ofChange isaTwiceSpec)) isaTwiceCard

/-- THE TIED CARD OF 'backsteplaw21.IsaTargets'. -/
def isaTargetsCard : Claim7 := { stood := { row := isaTargetsRow, standIns := [], harness := (true, "1fac1966f0a52d3c77a7983e6a76ae6773f44c316dd9f20379459e25d848a22d"), looks := false }, kinds := [], alts := [], laidByText := true, laidKinds := [.data], laidTests := true, laidLooks := .later }
def IsaTargetsCardSaid : Prop := Claim7.holds Tryd.pinned (.plain (OpenSpec.ofChange isaTargetsSpec)) isaTargetsCard

/-- THE TIED CARD OF 'backsteplaw21.IsaMoves'. -/
def isaMovesCard : Claim7 := { stood := { row := isaMovesRow, standIns := [], harness := (true, "1fac1966f0a52d3c77a7983e6a76ae6773f44c316dd9f20379459e25d848a22d"), looks := false }, kinds := [], alts := [], laidByText := true, laidKinds := [.data], laidTests := true, laidLooks := .later }
def IsaMovesCardSaid : Prop := Claim7.holds Tryd.pinned (.plain (OpenSpec.ofChange isaMovesSpec)) isaMovesCard

/-- THE TIED CARD OF 'backsteplaw21.IsaNames'. -/
def isaNamesCard : Claim7 := { stood := { row := isaNamesRow, standIns := [], harness := (true, "1fac1966f0a52d3c77a7983e6a76ae6773f44c316dd9f20379459e25d848a22d"), looks := false }, kinds := [], alts := [], laidByText := true, laidKinds := [.data], laidTests := true, laidLooks := .later }
def IsaNamesCardSaid : Prop := Claim7.holds Tryd.pinned (.plain (OpenSpec.ofChange isaNamesSpec)) isaNamesCard

/-- THE TIED CARD OF 'backsteplaw21.IsaJumps'. -/
def isaJumpsCard : Claim7 := { stood := { row := isaJumpsRow, standIns := [], harness := (true, "1fac1966f0a52d3c77a7983e6a76ae6773f44c316dd9f20379459e25d848a22d"), looks := false }, kinds := [], alts := [], laidByText := true, laidKinds := [.data], laidTests := true, laidLooks := .later }
def IsaJumpsCardSaid : Prop := Claim7.holds Tryd.pinned (.plain (OpenSpec.ofChange isaJumpsSpec)) isaJumpsCard

/-- THE SECOND FORM's CARD OF 'backsteplaw21.IsaValid'. -/
def isaValidUptoCard : Claim7 := { stood := { row := isaValidUptoRow, standIns := [], harness := (true, "1fac1966f0a52d3c77a7983e6a76ae6773f44c316dd9f20379459e25d848a22d"), looks := false }, kinds := [], alts := [], laidByText := true, laidKinds := [.data], laidTests := true, laidLooks := .later }
def IsaValidUptoCardSaid : Prop := Claim7.holds Tryd.pinned (.plain (OpenSpec.upto isaValidSpec)) isaValidUptoCard

/-- THE SECOND FORM's CARD OF 'backsteplaw21.IsaInverts'. -/
def isaInvertsUptoCard : Claim7 := { stood := { row := isaInvertsUptoRow, standIns := [], harness := (true, "1fac1966f0a52d3c77a7983e6a76ae6773f44c316dd9f20379459e25d848a22d"), looks := false }, kinds := [], alts := [], laidByText := true, laidKinds := [.data], laidTests := true, laidLooks := .later }
def IsaInvertsUptoCardSaid : Prop := Claim7.holds Tryd.pinned (.plain (OpenSpec.upto isaInvertsSpec)) isaInvertsUptoCard

/-- THE SECOND FORM's CARD OF 'backsteplaw21.IsaUnused'. -/
def isaUnusedUptoCard : Claim7 := { stood := { row := isaUnusedUptoRow, standIns := [], harness := (true, "1fac1966f0a52d3c77a7983e6a76ae6773f44c316dd9f20379459e25d848a22d"), looks := false }, kinds := [], alts := [], laidByText := true, laidKinds := [.data], laidTests := true, laidLooks := .later }
def IsaUnusedUptoCardSaid : Prop := Claim7.holds Tryd.pinned (.plain (OpenSpec.upto isaUnusedSpec)) isaUnusedUptoCard

/-- THE SECOND FORM's CARD OF 'backsteplaw21.IsaTwice'. -/
def isaTwiceUptoCard : Claim7 := { stood := { row := isaTwiceUptoRow, standIns := [], harness := (true, "1fac1966f0a52d3c77a7983e6a76ae6773f44c316dd9f20379459e25d848a22d"), looks := false }, kinds := [], alts := [], laidByText := true, laidKinds := [.data], laidTests := true, laidLooks := .later }
def IsaTwiceUptoCardSaid : Prop := Claim7.holds Tryd.pinned (.plain (OpenSpec.upto isaTwiceSpec)) isaTwiceUptoCard

/-- THE SECOND FORM's CARD OF 'backsteplaw21.IsaTargets'. -/
def isaTargetsUptoCard : Claim7 := { stood := { row := isaTargetsUptoRow, standIns := [], harness := (true, "1fac1966f0a52d3c77a7983e6a76ae6773f44c316dd9f20379459e25d848a22d"), looks := false }, kinds := [], alts := [], laidByText := true, laidKinds := [.data], laidTests := true, laidLooks := .later }
def IsaTargetsUptoCardSaid : Prop := Claim7.holds Tryd.pinned (.plain (OpenSpec.upto isaTargetsSpec)) isaTargetsUptoCard

/-- THE SECOND FORM's CARD OF 'backsteplaw21.IsaMoves'. -/
def isaMovesUptoCard : Claim7 := { stood := { row := isaMovesUptoRow, standIns := [], harness := (true, "1fac1966f0a52d3c77a7983e6a76ae6773f44c316dd9f20379459e25d848a22d"), looks := false }, kinds := [], alts := [], laidByText := true, laidKinds := [.data], laidTests := true, laidLooks := .later }
def IsaMovesUptoCardSaid : Prop := Claim7.holds Tryd.pinned (.plain (OpenSpec.upto isaMovesSpec)) isaMovesUptoCard

/-- THE SECOND FORM's CARD OF 'backsteplaw21.IsaNames'. -/
def isaNamesUptoCard : Claim7 := { stood := { row := isaNamesUptoRow, standIns := [], harness := (true, "1fac1966f0a52d3c77a7983e6a76ae6773f44c316dd9f20379459e25d848a22d"), looks := false }, kinds := [], alts := [], laidByText := true, laidKinds := [.data], laidTests := true, laidLooks := .later }
def IsaNamesUptoCardSaid : Prop := Claim7.holds Tryd.pinned (.plain (OpenSpec.upto isaNamesSpec)) isaNamesUptoCard

/-- THE SECOND FORM's CARD OF 'backsteplaw21.IsaJumps'. -/
def isaJumpsUptoCard : Claim7 := { stood := { row := isaJumpsUptoRow, standIns := [], harness := (true, "1fac1966f0a52d3c77a7983e6a76ae6773f44c316dd9f20379459e25d848a22d"), looks := false }, kinds := [], alts := [], laidByText := true, laidKinds := [.data], laidTests := true, laidLooks := .later }
def IsaJumpsUptoCardSaid : Prop := Claim7.holds Tryd.pinned (.plain (OpenSpec.upto isaJumpsSpec)) isaJumpsUptoCard
end Rows
end Go.Proofs.YtfcfmljndlmkbaaDoor

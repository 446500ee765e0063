/-
  DERIVED. GIVEN WITH THE SEED: THE CARDS: each row of YtcoeakdpcigogaaDoorRows.lean that lists a variable, with what it lists TIED to the program's text (the seventh form; the later family's looks); each row that meets fmt, with fmt's text TOLD by the authors' own Lean function (tested against real Go, not proved from fmt's source: count such statements apart). THE CARD IS WHAT COUNTS. Prove the row's statement (the work); the ties are given (YtcoeakdpcigogaaDoorTie.lean); close each card by the builder's one call (the guide's Derived/Test/ToyasCard.lean, 'card_holds'). Laid BY PROGRAM, IN A SANDBOX (cutbox-door.mjs). By AI agents, Wed Nov 11 2026. No macro, syntax, notation, axiom, sorry.
-/
import Derived.Test.YtcoeakdpcigogaaDoorRows
import GoSem.ClaimSeven
namespace Go.Proofs.YtcoeakdpcigogaaDoor
namespace Rows

/-- THE TIED CARD OF 'backsteplaw38.AnfNormalizes'. -/
def anfNormalizesCard : Claim7 := { stood := { row := anfNormalizesRow, standIns := [], harness := (true, "af58fc65b680674b8173aaa465ae5524f953189a9c4f4c108ea5e903a083e60f"), looks := true }, kinds := [], alts := [], laidByText := true, laidKinds := [.data, .data, .data], laidTests := true, laidLooks := .later }
def AnfNormalizesCardSaid : Prop := Claim7.holds Tryd.pinned (.plain (OpenSpec.ofChange anfNormalizesSpec)) anfNormalizesCard

/-- THE TIED CARD OF 'backsteplaw38.AnfValid'. -/
def anfValidCard : Claim7 := { stood := { row := anfValidRow, standIns := [], harness := (true, "af58fc65b680674b8173aaa465ae5524f953189a9c4f4c108ea5e903a083e60f"), looks := true }, kinds := [], alts := [], laidByText := true, laidKinds := [.data, .data, .data], laidTests := true, laidLooks := .later }
def AnfValidCardSaid : Prop := Claim7.holds Tryd.pinned (.plain (OpenSpec.ofChange anfValidSpec)) anfValidCard

/-- THE TIED CARD OF 'backsteplaw38.AnfFuel'. -/
def anfFuelCard : Claim7 := { stood := { row := anfFuelRow, standIns := [], harness := (true, "af58fc65b680674b8173aaa465ae5524f953189a9c4f4c108ea5e903a083e60f"), looks := true }, kinds := [], alts := [], laidByText := true, laidKinds := [.data, .data, .data], laidTests := true, laidLooks := .later }
def AnfFuelCardSaid : Prop := Claim7.holds Tryd.pinned (.plain (OpenSpec.ofChange anfFuelSpec)) anfFuelCard

/-- THE TIED CARD OF 'backsteplaw38.AnfOrder'. -/
def anfOrderCard : Claim7 := { stood := { row := anfOrderRow, standIns := [], harness := (true, "af58fc65b680674b8173aaa465ae5524f953189a9c4f4c108ea5e903a083e60f"), looks := true }, kinds := [], alts := [], laidByText := true, laidKinds := [.data, .data, .data], laidTests := true, laidLooks := .later }
def AnfOrderCardSaid : Prop := Claim7.holds Tryd.pinned (.plain (OpenSpec.ofChange anfOrderSpec)) anfOrderCard

/-- THE TIED CARD OF 'backsteplaw38.AnfOnce'. -/
def anfOnceCard : Claim7 := { stood := { row := anfOnceRow, standIns := [], harness := (true, "af58fc65b680674b8173aaa465ae5524f953189a9c4f4c108ea5e903a083e60f"), looks := true }, kinds := [], alts := [], laidByText := true, laidKinds := [.data, .data, .data], laidTests := true, laidLooks := .later }
def AnfOnceCardSaid : Prop := Claim7.holds Tryd.pinned (.plain (OpenSpec.ofChange anfOnceSpec)) anfOnceCard

/-- THE TIED CARD OF 'backsteplaw38.AnfAgrees'. -/
def anfAgreesCard : Claim7 := { stood := { row := anfAgreesRow, standIns := [], harness := (true, "af58fc65b680674b8173aaa465ae5524f953189a9c4f4c108ea5e903a083e60f"), looks := true }, kinds := [], alts := [], laidByText := true, laidKinds := [.data, .data, .data], laidTests := true, laidLooks := .later }
def AnfAgreesCardSaid : Prop := Claim7.holds Tryd.pinned (.plain (OpenSpec.ofChange anfAgreesSpec)) anfAgreesCard

/-- THE SECOND FORM's CARD OF 'backsteplaw38.AnfNormalizes'. -/
def anfNormalizesUptoCard : Claim7 := { stood := { row := anfNormalizesUptoRow, standIns := [], harness := (true, "af58fc65b680674b8173aaa465ae5524f953189a9c4f4c108ea5e903a083e60f"), looks := true }, kinds := [], alts := [], laidByText := true, laidKinds := [.data, .data, .data], laidTests := true, laidLooks := .later }
def AnfNormalizesUptoCardSaid : Prop := Claim7.holds Tryd.pinned (.plain (OpenSpec.upto anfNormalizesSpec)) anfNormalizesUptoCard

/-- THE SECOND FORM's CARD OF 'backsteplaw38.AnfValid'. -/
def anfValidUptoCard : Claim7 := { stood := { row := anfValidUptoRow, standIns := [], harness := (true, "af58fc65b680674b8173aaa465ae5524f953189a9c4f4c108ea5e903a083e60f"), looks := true }, kinds := [], alts := [], laidByText := true, laidKinds := [.data, .data, .data], laidTests := true, laidLooks := .later }
def AnfValidUptoCardSaid : Prop := Claim7.holds Tryd.pinned (.plain (OpenSpec.upto anfValidSpec)) anfValidUptoCard

/-- THE SECOND FORM's CARD OF 'backsteplaw38.AnfFuel'. -/
def anfFuelUptoCard : Claim7 := { stood := { row := anfFuelUptoRow, standIns := [], harness := (true, "af58fc65b680674b8173aaa465ae5524f953189a9c4f4c108ea5e903a083e60f"), looks := true }, kinds := [], alts := [], laidByText := true, laidKinds := [.data, .data, .data], laidTests := true, laidLooks := .later }
def AnfFuelUptoCardSaid : Prop := Claim7.holds Tryd.pinned (.plain (OpenSpec.upto anfFuelSpec)) anfFuelUptoCard

/-- THE SECOND FORM's CARD OF 'backsteplaw38.AnfOrder'. -/
def anfOrderUptoCard : Claim7 := { stood := { row := anfOrderUptoRow, standIns := [], harness := (true, "af58fc65b680674b8173aaa465ae5524f953189a9c4f4c108ea5e903a083e60f"), looks := true }, kinds := [], alts := [], laidByText := true, laidKinds := [.data, .data, .data], laidTests := true, laidLooks := .later }
def AnfOrderUptoCardSaid : Prop := Claim7.holds Tryd.pinned (.plain (OpenSpec.upto anfOrderSpec)) anfOrderUptoCard

/-- THE SECOND FORM's CARD OF 'backsteplaw38.AnfOnce'. -/
def anfOnceUptoCard : Claim7 := { stood := { row := anfOnceUptoRow, standIns := [], harness := (true, "af58fc65b680674b8173aaa465ae5524f953189a9c4f4c108ea5e903a083e60f"), looks := true }, kinds := [], alts := [], laidByText := true, laidKinds := [.data, .data, .data], laidTests := true, laidLooks := .later }
def AnfOnceUptoCardSaid : Prop := Claim7.holds Tryd.pinned (.plain (OpenSpec.upto anfOnceSpec)) anfOnceUptoCard

/-- THE SECOND FORM's CARD OF 'backsteplaw38.AnfAgrees'. -/
def anfAgreesUptoCard : Claim7 := { stood := { row := anfAgreesUptoRow, standIns := [], harness := (true, "af58fc65b680674b8173aaa465ae5524f953189a9c4f4c108ea5e903a083e60f"), looks := true }, kinds := [], alts := [], laidByText := true, laidKinds := [.data, .data, .data], laidTests := true, laidLooks := .later }
def AnfAgreesUptoCardSaid : Prop := Claim7.holds Tryd.pinned (.plain (OpenSpec.upto anfAgreesSpec)) anfAgreesUptoCard
end Rows
end Go.Proofs.YtcoeakdpcigogaaDoor

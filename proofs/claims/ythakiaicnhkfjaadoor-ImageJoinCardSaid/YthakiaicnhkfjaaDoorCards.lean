/-
  DERIVED. GIVEN WITH THE SEED: THE CARDS: each row of YthakiaicnhkfjaaDoorRows.lean that lists a variable, with what it lists TIED to the program's text (the seventh form; the later family's looks); each row that meets fmt, with fmt's text TOLD by the authors' own Lean function (tested against real Go, not proved from fmt's source: count such statements apart). THE CARD IS WHAT COUNTS. Prove the row's statement (the work); the ties are given (YthakiaicnhkfjaaDoorTie.lean); close each card by the builder's one call (the guide's Derived/Test/ToyasCard.lean, 'card_holds'). Laid BY PROGRAM, IN A SANDBOX (cutbox-door.mjs). By AI agents, Wed Nov 11 2026. No macro, syntax, notation, axiom, sorry.
-/
import Derived.Test.YthakiaicnhkfjaaDoorRows
import GoSem.ClaimSeven
namespace Go.Proofs.YthakiaicnhkfjaaDoor
namespace Rows

/-- THE TIED CARD OF 'backsteplaw23.ImageInvert'. -/
def imageInvertCard : Claim7 := { stood := { row := imageInvertRow, standIns := [], harness := (true, "505102afd9108ad9a26c1b0f47145f6c526e4b5baac1ef86380de61b9bc3c95a"), looks := false }, kinds := [], alts := [], laidByText := true, laidKinds := [.data], laidTests := true, laidLooks := .later }
def ImageInvertCardSaid : Prop := Claim7.holds Tryd.pinned (.plain (OpenSpec.ofChange imageInvertSpec)) imageInvertCard

/-- THE TIED CARD OF 'backsteplaw23.ImageCheck'. -/
def imageCheckCard : Claim7 := { stood := { row := imageCheckRow, standIns := [], harness := (true, "505102afd9108ad9a26c1b0f47145f6c526e4b5baac1ef86380de61b9bc3c95a"), looks := false }, kinds := [], alts := [], laidByText := true, laidKinds := [.data], laidTests := true, laidLooks := .later }
def ImageCheckCardSaid : Prop := Claim7.holds Tryd.pinned (.plain (OpenSpec.ofChange imageCheckSpec)) imageCheckCard

/-- THE TIED CARD OF 'backsteplaw23.ImageTwice'. -/
def imageTwiceCard : Claim7 := { stood := { row := imageTwiceRow, standIns := [], harness := (true, "505102afd9108ad9a26c1b0f47145f6c526e4b5baac1ef86380de61b9bc3c95a"), looks := false }, kinds := [], alts := [], laidByText := true, laidKinds := [.data], laidTests := true, laidLooks := .later }
def ImageTwiceCardSaid : Prop := Claim7.holds Tryd.pinned (.plain (OpenSpec.ofChange imageTwiceSpec)) imageTwiceCard

/-- THE TIED CARD OF 'backsteplaw23.ImageJoin'. -/
def imageJoinCard : Claim7 := { stood := { row := imageJoinRow, standIns := [], harness := (true, "505102afd9108ad9a26c1b0f47145f6c526e4b5baac1ef86380de61b9bc3c95a"), looks := false }, kinds := [], alts := [], laidByText := true, laidKinds := [.data], laidTests := true, laidLooks := .later }
def ImageJoinCardSaid : Prop := Claim7.holds Tryd.pinned (.plain (OpenSpec.ofChange imageJoinSpec)) imageJoinCard

/-- THE TIED CARD OF 'backsteplaw23.ImagePairs'. -/
def imagePairsCard : Claim7 := { stood := { row := imagePairsRow, standIns := [], harness := (true, "505102afd9108ad9a26c1b0f47145f6c526e4b5baac1ef86380de61b9bc3c95a"), looks := false }, kinds := [], alts := [], laidByText := true, laidKinds := [.data], laidTests := true, laidLooks := .later }
def ImagePairsCardSaid : Prop := Claim7.holds Tryd.pinned (.plain (OpenSpec.ofChange imagePairsSpec)) imagePairsCard

/-- THE TIED CARD OF 'backsteplaw23.ImageSpoilt'. -/
def imageSpoiltCard : Claim7 := { stood := { row := imageSpoiltRow, standIns := [], harness := (true, "505102afd9108ad9a26c1b0f47145f6c526e4b5baac1ef86380de61b9bc3c95a"), looks := false }, kinds := [], alts := [], laidByText := true, laidKinds := [.data], laidTests := true, laidLooks := .later }
def ImageSpoiltCardSaid : Prop := Claim7.holds Tryd.pinned (.plain (OpenSpec.ofChange imageSpoiltSpec)) imageSpoiltCard

/-- THE TIED CARD OF 'backsteplaw23.ImageMirror'. -/
def imageMirrorCard : Claim7 := { stood := { row := imageMirrorRow, standIns := [], harness := (true, "505102afd9108ad9a26c1b0f47145f6c526e4b5baac1ef86380de61b9bc3c95a"), looks := false }, kinds := [], alts := [], laidByText := true, laidKinds := [.data], laidTests := true, laidLooks := .later }
def ImageMirrorCardSaid : Prop := Claim7.holds Tryd.pinned (.plain (OpenSpec.ofChange imageMirrorSpec)) imageMirrorCard

/-- THE TIED CARD OF 'backsteplaw23.ImageNested'. -/
def imageNestedCard : Claim7 := { stood := { row := imageNestedRow, standIns := [], harness := (true, "505102afd9108ad9a26c1b0f47145f6c526e4b5baac1ef86380de61b9bc3c95a"), looks := false }, kinds := [], alts := [], laidByText := true, laidKinds := [.data], laidTests := true, laidLooks := .later }
def ImageNestedCardSaid : Prop := Claim7.holds Tryd.pinned (.plain (OpenSpec.ofChange imageNestedSpec)) imageNestedCard

/-- THE TIED CARD OF 'backsteplaw23.ImagePartner'. -/
def imagePartnerCard : Claim7 := { stood := { row := imagePartnerRow, standIns := [], harness := (true, "505102afd9108ad9a26c1b0f47145f6c526e4b5baac1ef86380de61b9bc3c95a"), looks := false }, kinds := [], alts := [], laidByText := true, laidKinds := [.data], laidTests := true, laidLooks := .later }
def ImagePartnerCardSaid : Prop := Claim7.holds Tryd.pinned (.plain (OpenSpec.ofChange imagePartnerSpec)) imagePartnerCard

/-- THE SECOND FORM's CARD OF 'backsteplaw23.ImageInvert'. -/
def imageInvertUptoCard : Claim7 := { stood := { row := imageInvertUptoRow, standIns := [], harness := (true, "505102afd9108ad9a26c1b0f47145f6c526e4b5baac1ef86380de61b9bc3c95a"), looks := false }, kinds := [], alts := [], laidByText := true, laidKinds := [.data], laidTests := true, laidLooks := .later }
def ImageInvertUptoCardSaid : Prop := Claim7.holds Tryd.pinned (.plain (OpenSpec.upto imageInvertSpec)) imageInvertUptoCard

/-- THE SECOND FORM's CARD OF 'backsteplaw23.ImageCheck'. -/
def imageCheckUptoCard : Claim7 := { stood := { row := imageCheckUptoRow, standIns := [], harness := (true, "505102afd9108ad9a26c1b0f47145f6c526e4b5baac1ef86380de61b9bc3c95a"), looks := false }, kinds := [], alts := [], laidByText := true, laidKinds := [.data], laidTests := true, laidLooks := .later }
def ImageCheckUptoCardSaid : Prop := Claim7.holds Tryd.pinned (.plain (OpenSpec.upto imageCheckSpec)) imageCheckUptoCard

/-- THE SECOND FORM's CARD OF 'backsteplaw23.ImageTwice'. -/
def imageTwiceUptoCard : Claim7 := { stood := { row := imageTwiceUptoRow, standIns := [], harness := (true, "505102afd9108ad9a26c1b0f47145f6c526e4b5baac1ef86380de61b9bc3c95a"), looks := false }, kinds := [], alts := [], laidByText := true, laidKinds := [.data], laidTests := true, laidLooks := .later }
def ImageTwiceUptoCardSaid : Prop := Claim7.holds Tryd.pinned (.plain (OpenSpec.upto imageTwiceSpec)) imageTwiceUptoCard

/-- THE SECOND FORM's CARD OF 'backsteplaw23.ImageJoin'. -/
def imageJoinUptoCard : Claim7 := { stood := { row := imageJoinUptoRow, standIns := [], harness := (true, "505102afd9108ad9a26c1b0f47145f6c526e4b5baac1ef86380de61b9bc3c95a"), looks := false }, kinds := [], alts := [], laidByText := true, laidKinds := [.data], laidTests := true, laidLooks := .later }
def ImageJoinUptoCardSaid : Prop := Claim7.holds Tryd.pinned (.plain (OpenSpec.upto imageJoinSpec)) imageJoinUptoCard

/-- THE SECOND FORM's CARD OF 'backsteplaw23.ImagePairs'. -/
def imagePairsUptoCard : Claim7 := { stood := { row := imagePairsUptoRow, standIns := [], harness := (true, "505102afd9108ad9a26c1b0f47145f6c526e4b5baac1ef86380de61b9bc3c95a"), looks := false }, kinds := [], alts := [], laidByText := true, laidKinds := [.data], laidTests := true, laidLooks := .later }
def ImagePairsUptoCardSaid : Prop := Claim7.holds Tryd.pinned (.plain (OpenSpec.upto imagePairsSpec)) imagePairsUptoCard

/-- THE SECOND FORM's CARD OF 'backsteplaw23.ImageSpoilt'. -/
def imageSpoiltUptoCard : Claim7 := { stood := { row := imageSpoiltUptoRow, standIns := [], harness := (true, "505102afd9108ad9a26c1b0f47145f6c526e4b5baac1ef86380de61b9bc3c95a"), looks := false }, kinds := [], alts := [], laidByText := true, laidKinds := [.data], laidTests := true, laidLooks := .later }
def ImageSpoiltUptoCardSaid : Prop := Claim7.holds Tryd.pinned (.plain (OpenSpec.upto imageSpoiltSpec)) imageSpoiltUptoCard

/-- THE SECOND FORM's CARD OF 'backsteplaw23.ImageMirror'. -/
def imageMirrorUptoCard : Claim7 := { stood := { row := imageMirrorUptoRow, standIns := [], harness := (true, "505102afd9108ad9a26c1b0f47145f6c526e4b5baac1ef86380de61b9bc3c95a"), looks := false }, kinds := [], alts := [], laidByText := true, laidKinds := [.data], laidTests := true, laidLooks := .later }
def ImageMirrorUptoCardSaid : Prop := Claim7.holds Tryd.pinned (.plain (OpenSpec.upto imageMirrorSpec)) imageMirrorUptoCard

/-- THE SECOND FORM's CARD OF 'backsteplaw23.ImageNested'. -/
def imageNestedUptoCard : Claim7 := { stood := { row := imageNestedUptoRow, standIns := [], harness := (true, "505102afd9108ad9a26c1b0f47145f6c526e4b5baac1ef86380de61b9bc3c95a"), looks := false }, kinds := [], alts := [], laidByText := true, laidKinds := [.data], laidTests := true, laidLooks := .later }
def ImageNestedUptoCardSaid : Prop := Claim7.holds Tryd.pinned (.plain (OpenSpec.upto imageNestedSpec)) imageNestedUptoCard

/-- THE SECOND FORM's CARD OF 'backsteplaw23.ImagePartner'. -/
def imagePartnerUptoCard : Claim7 := { stood := { row := imagePartnerUptoRow, standIns := [], harness := (true, "505102afd9108ad9a26c1b0f47145f6c526e4b5baac1ef86380de61b9bc3c95a"), looks := false }, kinds := [], alts := [], laidByText := true, laidKinds := [.data], laidTests := true, laidLooks := .later }
def ImagePartnerUptoCardSaid : Prop := Claim7.holds Tryd.pinned (.plain (OpenSpec.upto imagePartnerSpec)) imagePartnerUptoCard
end Rows
end Go.Proofs.YthakiaicnhkfjaaDoor

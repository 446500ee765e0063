/-
  NARROWER THAN 'FOR EVERY INPUT', by the rows' own cells (each row's printed sentence says how): ImageInvert: laid · ImageCheck: laid · ImageTwice: laid · ImageJoin: laid · ImagePairs: laid · ImageSpoilt: laid · ImageMirror: laid · ImageNested: laid · ImagePartner: laid.
  DERIVED. THE GIVEN ROWS OF THIS SEAT. 9 by the template 'for every input the law returns true; each argument reads behind the call as it read before'; 0 by the template 'total and deterministic' (their statements: YthakiaicnhkfjaaDoorTotals.lean).
  GIVEN WITH THE SEED: the statements are not yours to turn. If you find one false, say at which input.
  Laid BY PROGRAM, IN A SANDBOX (cutbox-rows.mjs): the forced cells as the released guide's own fill.sh prints them over the translation 4fafa4fda9aff783… (all of the seat's roots in one cut). By AI agents, Wed Nov 11 2026. No macro, syntax, notation, axiom, sorry.
-/
import Derived.Test.YthakiaicnhkfjaaDoorChecked
import GoSem.Claim
import GoSem.ClaimJoined
import GoSem.ClaimMapViews
import Derived.JoinedTies
import Derived.KernelRfl
namespace Go.Proofs.YthakiaicnhkfjaaDoor
/- THE CELL 'sum', in the pinned program and in every row, IS THE sha256 OF THE DUMP (.gsa) THAT YthakiaicnhkfjaaDoorProg.lean LOADS. Nothing in Lean hashes anything: it is a label: what it is worth is what the hold of that sum in a sandbox is worth. -/
noncomputable def Tryd.pinned : Pinned := { name := "ythakiaicnhkfjaadoor", sum := "4fafa4fda9aff783daf2b5ada8d540d05e90ec6b5cf70a65099b54fe9724a58e", checked := Tryd.checked }
namespace Rows
def none {H : Type} : Left H := { results := [], args := [] }

/- WHAT THE LISTED PACKAGE-LEVEL VARIABLES READ AS WHEN THE CALL BEGINS. Each datum BY PROGRAM (the guide's laid-datum.mjs) off the statement by which the dump's own 'gosem.cut.vars' lays the variable. In a bare row this is a premise. The card (YthakiaicnhkfjaaDoorCards.lean) ties it to the program's text. -/
def laid_backstep_isa_table {H : Type} : DataW H := .agg [.agg [.lit (.string [110, 111, 112]), .lit (.int .i64 0)], .agg [.lit (.string [97, 100, 100]), .lit (.int .i64 2)], .agg [.lit (.string [115, 117, 98]), .lit (.int .i64 2)], .agg [.lit (.string [120, 111, 114]), .lit (.int .i64 2)], .agg [.lit (.string [97, 100, 100, 105]), .lit (.int .i64 2)], .agg [.lit (.string [115, 117, 98, 105]), .lit (.int .i64 2)], .agg [.lit (.string [120, 111, 114, 105]), .lit (.int .i64 2)], .agg [.lit (.string [115, 119, 97, 112]), .lit (.int .i64 2)], .agg [.lit (.string [110, 101, 103]), .lit (.int .i64 1)], .agg [.lit (.string [99, 97, 108, 99]), .lit (.int .i64 4)], .agg [.lit (.string [109, 101, 109]), .lit (.int .i64 2)], .agg [.lit (.string [105, 100, 120]), .lit (.int .i64 4)], .agg [.lit (.string [112, 117, 115, 104]), .lit (.int .i64 2)], .agg [.lit (.string [112, 111, 112]), .lit (.int .i64 2)], .agg [.lit (.string [116, 111, 112]), .lit (.int .i64 2)], .agg [.lit (.string [115, 105, 122, 101]), .lit (.int .i64 2)], .agg [.lit (.string [115, 119, 97, 112, 115]), .lit (.int .i64 2)], .agg [.lit (.string [114, 101, 97, 100]), .lit (.int .i64 1)], .agg [.lit (.string [117, 110, 114, 101, 97, 100]), .lit (.int .i64 1)], .agg [.lit (.string [119, 114, 105, 116, 101]), .lit (.int .i64 1)], .agg [.lit (.string [117, 110, 119, 114, 105, 116, 101]), .lit (.int .i64 1)], .agg [.lit (.string [122, 101, 114, 111]), .lit (.int .i64 2)], .agg [.lit (.string [106, 109, 112]), .lit (.int .i64 1)], .agg [.lit (.string [106, 109, 112, 122]), .lit (.int .i64 2)], .agg [.lit (.string [106, 109, 112, 110]), .lit (.int .i64 2)], .agg [.lit (.string [108, 97, 110, 100]), .lit (.int .i64 1)], .agg [.lit (.string [108, 97, 110, 100, 122]), .lit (.int .i64 2)], .agg [.lit (.string [108, 97, 110, 100, 110]), .lit (.int .i64 2)], .agg [.lit (.string [102, 114, 97, 109, 101]), .lit (.int .i64 2)], .agg [.lit (.string [117, 110, 102, 114, 97, 109, 101]), .lit (.int .i64 2)], .agg [.lit (.string [99, 97, 108, 108]), .lit (.int .i64 1)], .agg [.lit (.string [117, 110, 99, 97, 108, 108]), .lit (.int .i64 1)], .agg [.lit (.string [115, 116, 97, 114, 116]), .lit (.int .i64 1)], .agg [.lit (.string [101, 110, 100]), .lit (.int .i64 1)], .agg [.lit (.string [104, 97, 108, 116]), .lit (.int .i64 0)]]

/-- 'backsteplaw23.ImageInvert': WHATEVER THE INPUT: true; the input reads as it did. -/
def imageInvertSpec : ChangeSpec := { name := "imageInvert", fn := fun _ => fun
  | [d] => { results := [.lit (.bool true)], args := [d] }
  | _ => none }
def imageInvertRow : OpenClaim := { program := "ythakiaicnhkfjaadoor", sum := "4fafa4fda9aff783daf2b5ada8d540d05e90ec6b5cf70a65099b54fe9724a58e", func := "backstep/backsteplaw23.ImageInvert", spec := "imageInvert", named := ["backstep/isa.table"], apart := false, laid := [("backstep/isa.table", laid_backstep_isa_table)] }
def ImageInvertSaid : Prop := imageInvertRow.holds Tryd.pinned (OpenSpec.ofChange imageInvertSpec)

/-- ITS FALSE NEIGHBOUR: 'it returns false'. Refute it at one input. -/
def imageInvertWrong : ChangeSpec := { name := "imageInvert", fn := fun _ => fun
  | [d] => { results := [.lit (.bool false)], args := [d] }
  | _ => none }
def ImageInvertWrongFalsely : Prop := imageInvertRow.holds Tryd.pinned (OpenSpec.ofChange imageInvertWrong)

/-- 'backsteplaw23.ImageCheck': WHATEVER THE INPUT: true; the input reads as it did. -/
def imageCheckSpec : ChangeSpec := { name := "imageCheck", fn := fun _ => fun
  | [d] => { results := [.lit (.bool true)], args := [d] }
  | _ => none }
def imageCheckRow : OpenClaim := { program := "ythakiaicnhkfjaadoor", sum := "4fafa4fda9aff783daf2b5ada8d540d05e90ec6b5cf70a65099b54fe9724a58e", func := "backstep/backsteplaw23.ImageCheck", spec := "imageCheck", named := ["backstep/isa.table"], apart := false, laid := [("backstep/isa.table", laid_backstep_isa_table)] }
def ImageCheckSaid : Prop := imageCheckRow.holds Tryd.pinned (OpenSpec.ofChange imageCheckSpec)

/-- ITS FALSE NEIGHBOUR: 'it returns false'. Refute it at one input. -/
def imageCheckWrong : ChangeSpec := { name := "imageCheck", fn := fun _ => fun
  | [d] => { results := [.lit (.bool false)], args := [d] }
  | _ => none }
def ImageCheckWrongFalsely : Prop := imageCheckRow.holds Tryd.pinned (OpenSpec.ofChange imageCheckWrong)

/-- 'backsteplaw23.ImageTwice': WHATEVER THE INPUT: true; the input reads as it did. -/
def imageTwiceSpec : ChangeSpec := { name := "imageTwice", fn := fun _ => fun
  | [d] => { results := [.lit (.bool true)], args := [d] }
  | _ => none }
def imageTwiceRow : OpenClaim := { program := "ythakiaicnhkfjaadoor", sum := "4fafa4fda9aff783daf2b5ada8d540d05e90ec6b5cf70a65099b54fe9724a58e", func := "backstep/backsteplaw23.ImageTwice", spec := "imageTwice", named := ["backstep/isa.table"], apart := false, laid := [("backstep/isa.table", laid_backstep_isa_table)] }
def ImageTwiceSaid : Prop := imageTwiceRow.holds Tryd.pinned (OpenSpec.ofChange imageTwiceSpec)

/-- ITS FALSE NEIGHBOUR: 'it returns false'. Refute it at one input. -/
def imageTwiceWrong : ChangeSpec := { name := "imageTwice", fn := fun _ => fun
  | [d] => { results := [.lit (.bool false)], args := [d] }
  | _ => none }
def ImageTwiceWrongFalsely : Prop := imageTwiceRow.holds Tryd.pinned (OpenSpec.ofChange imageTwiceWrong)

/-- 'backsteplaw23.ImageJoin': WHATEVER THE INPUT: true; the input reads as it did. -/
def imageJoinSpec : ChangeSpec := { name := "imageJoin", fn := fun _ => fun
  | [d1, d2] => { results := [.lit (.bool true)], args := [d1, d2] }
  | _ => none }
def imageJoinRow : OpenClaim := { program := "ythakiaicnhkfjaadoor", sum := "4fafa4fda9aff783daf2b5ada8d540d05e90ec6b5cf70a65099b54fe9724a58e", func := "backstep/backsteplaw23.ImageJoin", spec := "imageJoin", named := ["backstep/isa.table"], apart := false, laid := [("backstep/isa.table", laid_backstep_isa_table)] }
def ImageJoinSaid : Prop := imageJoinRow.holds Tryd.pinned (OpenSpec.ofChange imageJoinSpec)

/-- ITS FALSE NEIGHBOUR: 'it returns false'. Refute it at one input. -/
def imageJoinWrong : ChangeSpec := { name := "imageJoin", fn := fun _ => fun
  | [d1, d2] => { results := [.lit (.bool false)], args := [d1, d2] }
  | _ => none }
def ImageJoinWrongFalsely : Prop := imageJoinRow.holds Tryd.pinned (OpenSpec.ofChange imageJoinWrong)

/-- 'backsteplaw23.ImagePairs': WHATEVER THE INPUT: true; the input reads as it did. -/
def imagePairsSpec : ChangeSpec := { name := "imagePairs", fn := fun _ => fun
  | [d] => { results := [.lit (.bool true)], args := [d] }
  | _ => none }
def imagePairsRow : OpenClaim := { program := "ythakiaicnhkfjaadoor", sum := "4fafa4fda9aff783daf2b5ada8d540d05e90ec6b5cf70a65099b54fe9724a58e", func := "backstep/backsteplaw23.ImagePairs", spec := "imagePairs", named := ["backstep/isa.table"], apart := false, laid := [("backstep/isa.table", laid_backstep_isa_table)] }
def ImagePairsSaid : Prop := imagePairsRow.holds Tryd.pinned (OpenSpec.ofChange imagePairsSpec)

/-- ITS FALSE NEIGHBOUR: 'it returns false'. Refute it at one input. -/
def imagePairsWrong : ChangeSpec := { name := "imagePairs", fn := fun _ => fun
  | [d] => { results := [.lit (.bool false)], args := [d] }
  | _ => none }
def ImagePairsWrongFalsely : Prop := imagePairsRow.holds Tryd.pinned (OpenSpec.ofChange imagePairsWrong)

/-- 'backsteplaw23.ImageSpoilt': WHATEVER THE INPUT: true; the input reads as it did. -/
def imageSpoiltSpec : ChangeSpec := { name := "imageSpoilt", fn := fun _ => fun
  | [d1, d2] => { results := [.lit (.bool true)], args := [d1, d2] }
  | _ => none }
def imageSpoiltRow : OpenClaim := { program := "ythakiaicnhkfjaadoor", sum := "4fafa4fda9aff783daf2b5ada8d540d05e90ec6b5cf70a65099b54fe9724a58e", func := "backstep/backsteplaw23.ImageSpoilt", spec := "imageSpoilt", named := ["backstep/isa.table"], apart := false, laid := [("backstep/isa.table", laid_backstep_isa_table)] }
def ImageSpoiltSaid : Prop := imageSpoiltRow.holds Tryd.pinned (OpenSpec.ofChange imageSpoiltSpec)

/-- ITS FALSE NEIGHBOUR: 'it returns false'. Refute it at one input. -/
def imageSpoiltWrong : ChangeSpec := { name := "imageSpoilt", fn := fun _ => fun
  | [d1, d2] => { results := [.lit (.bool false)], args := [d1, d2] }
  | _ => none }
def ImageSpoiltWrongFalsely : Prop := imageSpoiltRow.holds Tryd.pinned (OpenSpec.ofChange imageSpoiltWrong)

/-- 'backsteplaw23.ImageMirror': WHATEVER THE INPUT: true; the input reads as it did. -/
def imageMirrorSpec : ChangeSpec := { name := "imageMirror", fn := fun _ => fun
  | [d] => { results := [.lit (.bool true)], args := [d] }
  | _ => none }
def imageMirrorRow : OpenClaim := { program := "ythakiaicnhkfjaadoor", sum := "4fafa4fda9aff783daf2b5ada8d540d05e90ec6b5cf70a65099b54fe9724a58e", func := "backstep/backsteplaw23.ImageMirror", spec := "imageMirror", named := ["backstep/isa.table"], apart := false, laid := [("backstep/isa.table", laid_backstep_isa_table)] }
def ImageMirrorSaid : Prop := imageMirrorRow.holds Tryd.pinned (OpenSpec.ofChange imageMirrorSpec)

/-- ITS FALSE NEIGHBOUR: 'it returns false'. Refute it at one input. -/
def imageMirrorWrong : ChangeSpec := { name := "imageMirror", fn := fun _ => fun
  | [d] => { results := [.lit (.bool false)], args := [d] }
  | _ => none }
def ImageMirrorWrongFalsely : Prop := imageMirrorRow.holds Tryd.pinned (OpenSpec.ofChange imageMirrorWrong)

/-- 'backsteplaw23.ImageNested': WHATEVER THE INPUT: true; the input reads as it did. -/
def imageNestedSpec : ChangeSpec := { name := "imageNested", fn := fun _ => fun
  | [d] => { results := [.lit (.bool true)], args := [d] }
  | _ => none }
def imageNestedRow : OpenClaim := { program := "ythakiaicnhkfjaadoor", sum := "4fafa4fda9aff783daf2b5ada8d540d05e90ec6b5cf70a65099b54fe9724a58e", func := "backstep/backsteplaw23.ImageNested", spec := "imageNested", named := ["backstep/isa.table"], apart := false, laid := [("backstep/isa.table", laid_backstep_isa_table)] }
def ImageNestedSaid : Prop := imageNestedRow.holds Tryd.pinned (OpenSpec.ofChange imageNestedSpec)

/-- ITS FALSE NEIGHBOUR: 'it returns false'. Refute it at one input. -/
def imageNestedWrong : ChangeSpec := { name := "imageNested", fn := fun _ => fun
  | [d] => { results := [.lit (.bool false)], args := [d] }
  | _ => none }
def ImageNestedWrongFalsely : Prop := imageNestedRow.holds Tryd.pinned (OpenSpec.ofChange imageNestedWrong)

/-- 'backsteplaw23.ImagePartner': WHATEVER THE INPUT: true; the input reads as it did. -/
def imagePartnerSpec : ChangeSpec := { name := "imagePartner", fn := fun _ => fun
  | [d1, d2] => { results := [.lit (.bool true)], args := [d1, d2] }
  | _ => none }
def imagePartnerRow : OpenClaim := { program := "ythakiaicnhkfjaadoor", sum := "4fafa4fda9aff783daf2b5ada8d540d05e90ec6b5cf70a65099b54fe9724a58e", func := "backstep/backsteplaw23.ImagePartner", spec := "imagePartner", named := ["backstep/isa.table"], apart := false, laid := [("backstep/isa.table", laid_backstep_isa_table)] }
def ImagePartnerSaid : Prop := imagePartnerRow.holds Tryd.pinned (OpenSpec.ofChange imagePartnerSpec)

/-- ITS FALSE NEIGHBOUR: 'it returns false'. Refute it at one input. -/
def imagePartnerWrong : ChangeSpec := { name := "imagePartner", fn := fun _ => fun
  | [d1, d2] => { results := [.lit (.bool false)], args := [d1, d2] }
  | _ => none }
def ImagePartnerWrongFalsely : Prop := imagePartnerRow.holds Tryd.pinned (OpenSpec.ofChange imagePartnerWrong)

/- THE SECOND FORM. 'bulk': how many values and letters a reading holds, each counted each time it is reached (what is shared counts as often as it is met; a slice's spare places count too). A statement '..UptoSaid' is the law's where the arguments, and the package variables that the reading takes, are together of bulk at most 1048576: NARROWER than '..Said'. Prove '..Said' where nothing that the law and all that it calls make is longer than what came in: it says more and counts as full. Else prove '..UptoSaid'. A law counts once. -/
mutual
def uptoBulk {H : Type} : DataW H → Nat
  | .lit (.string bytes) => bytes.length + 1
  | .lit _ => 1
  | .nil => 1
  | .ptr d => uptoBulk d + 1
  | .slice elems spare => uptoBulkAll elems + uptoBulkAll spare + 1
  | .agg parts => uptoBulkAll parts + 1
  | .iface _ d => uptoBulk d + 1
  | .map entries => uptoBulkEntries entries + 1
  | .held _ => 1
def uptoBulkAll {H : Type} : List (DataW H) → Nat
  | [] => 0
  | d :: r => uptoBulk d + uptoBulkAll r
def uptoBulkEntries {H : Type} : List (Lit × DataW H) → Nat
  | [] => 0
  | x :: r => uptoBulkEntry x + uptoBulkEntries r
def uptoBulkEntry {H : Type} : Lit × DataW H → Nat
  | (.string bytes, d) => bytes.length + uptoBulk d + 1
  | (_, d) => uptoBulk d + 1
 end
def uptoSmall : (H : Type) → List (DataW H) → Bool := fun _ ds => decide (uptoBulkAll ds ≤ 1048576)
def OpenSpec.upto (s : _root_.Go.ChangeSpec) : _root_.Go.OpenSpec := { _root_.Go.OpenSpec.ofChange s with cond := some uptoSmall }

/-- 'backsteplaw23.ImageInvert', WHERE WHAT IT READS IS OF BULK AT MOST 1048576: true; the input reads as it did. -/
def imageInvertUptoRow : OpenClaim := { program := "ythakiaicnhkfjaadoor", sum := "4fafa4fda9aff783daf2b5ada8d540d05e90ec6b5cf70a65099b54fe9724a58e", func := "backstep/backsteplaw23.ImageInvert", spec := "imageInvert", named := ["backstep/isa.table"], apart := false, laid := [("backstep/isa.table", laid_backstep_isa_table)], narrowed := true }
def ImageInvertUptoSaid : Prop := imageInvertUptoRow.holds Tryd.pinned (OpenSpec.upto imageInvertSpec)

/-- 'backsteplaw23.ImageCheck', WHERE WHAT IT READS IS OF BULK AT MOST 1048576: true; the input reads as it did. -/
def imageCheckUptoRow : OpenClaim := { program := "ythakiaicnhkfjaadoor", sum := "4fafa4fda9aff783daf2b5ada8d540d05e90ec6b5cf70a65099b54fe9724a58e", func := "backstep/backsteplaw23.ImageCheck", spec := "imageCheck", named := ["backstep/isa.table"], apart := false, laid := [("backstep/isa.table", laid_backstep_isa_table)], narrowed := true }
def ImageCheckUptoSaid : Prop := imageCheckUptoRow.holds Tryd.pinned (OpenSpec.upto imageCheckSpec)

/-- 'backsteplaw23.ImageTwice', WHERE WHAT IT READS IS OF BULK AT MOST 1048576: true; the input reads as it did. -/
def imageTwiceUptoRow : OpenClaim := { program := "ythakiaicnhkfjaadoor", sum := "4fafa4fda9aff783daf2b5ada8d540d05e90ec6b5cf70a65099b54fe9724a58e", func := "backstep/backsteplaw23.ImageTwice", spec := "imageTwice", named := ["backstep/isa.table"], apart := false, laid := [("backstep/isa.table", laid_backstep_isa_table)], narrowed := true }
def ImageTwiceUptoSaid : Prop := imageTwiceUptoRow.holds Tryd.pinned (OpenSpec.upto imageTwiceSpec)

/-- 'backsteplaw23.ImageJoin', WHERE WHAT IT READS IS OF BULK AT MOST 1048576: true; the input reads as it did. -/
def imageJoinUptoRow : OpenClaim := { program := "ythakiaicnhkfjaadoor", sum := "4fafa4fda9aff783daf2b5ada8d540d05e90ec6b5cf70a65099b54fe9724a58e", func := "backstep/backsteplaw23.ImageJoin", spec := "imageJoin", named := ["backstep/isa.table"], apart := false, laid := [("backstep/isa.table", laid_backstep_isa_table)], narrowed := true }
def ImageJoinUptoSaid : Prop := imageJoinUptoRow.holds Tryd.pinned (OpenSpec.upto imageJoinSpec)

/-- 'backsteplaw23.ImagePairs', WHERE WHAT IT READS IS OF BULK AT MOST 1048576: true; the input reads as it did. -/
def imagePairsUptoRow : OpenClaim := { program := "ythakiaicnhkfjaadoor", sum := "4fafa4fda9aff783daf2b5ada8d540d05e90ec6b5cf70a65099b54fe9724a58e", func := "backstep/backsteplaw23.ImagePairs", spec := "imagePairs", named := ["backstep/isa.table"], apart := false, laid := [("backstep/isa.table", laid_backstep_isa_table)], narrowed := true }
def ImagePairsUptoSaid : Prop := imagePairsUptoRow.holds Tryd.pinned (OpenSpec.upto imagePairsSpec)

/-- 'backsteplaw23.ImageSpoilt', WHERE WHAT IT READS IS OF BULK AT MOST 1048576: true; the input reads as it did. -/
def imageSpoiltUptoRow : OpenClaim := { program := "ythakiaicnhkfjaadoor", sum := "4fafa4fda9aff783daf2b5ada8d540d05e90ec6b5cf70a65099b54fe9724a58e", func := "backstep/backsteplaw23.ImageSpoilt", spec := "imageSpoilt", named := ["backstep/isa.table"], apart := false, laid := [("backstep/isa.table", laid_backstep_isa_table)], narrowed := true }
def ImageSpoiltUptoSaid : Prop := imageSpoiltUptoRow.holds Tryd.pinned (OpenSpec.upto imageSpoiltSpec)

/-- 'backsteplaw23.ImageMirror', WHERE WHAT IT READS IS OF BULK AT MOST 1048576: true; the input reads as it did. -/
def imageMirrorUptoRow : OpenClaim := { program := "ythakiaicnhkfjaadoor", sum := "4fafa4fda9aff783daf2b5ada8d540d05e90ec6b5cf70a65099b54fe9724a58e", func := "backstep/backsteplaw23.ImageMirror", spec := "imageMirror", named := ["backstep/isa.table"], apart := false, laid := [("backstep/isa.table", laid_backstep_isa_table)], narrowed := true }
def ImageMirrorUptoSaid : Prop := imageMirrorUptoRow.holds Tryd.pinned (OpenSpec.upto imageMirrorSpec)

/-- 'backsteplaw23.ImageNested', WHERE WHAT IT READS IS OF BULK AT MOST 1048576: true; the input reads as it did. -/
def imageNestedUptoRow : OpenClaim := { program := "ythakiaicnhkfjaadoor", sum := "4fafa4fda9aff783daf2b5ada8d540d05e90ec6b5cf70a65099b54fe9724a58e", func := "backstep/backsteplaw23.ImageNested", spec := "imageNested", named := ["backstep/isa.table"], apart := false, laid := [("backstep/isa.table", laid_backstep_isa_table)], narrowed := true }
def ImageNestedUptoSaid : Prop := imageNestedUptoRow.holds Tryd.pinned (OpenSpec.upto imageNestedSpec)

/-- 'backsteplaw23.ImagePartner', WHERE WHAT IT READS IS OF BULK AT MOST 1048576: true; the input reads as it did. -/
def imagePartnerUptoRow : OpenClaim := { program := "ythakiaicnhkfjaadoor", sum := "4fafa4fda9aff783daf2b5ada8d540d05e90ec6b5cf70a65099b54fe9724a58e", func := "backstep/backsteplaw23.ImagePartner", spec := "imagePartner", named := ["backstep/isa.table"], apart := false, laid := [("backstep/isa.table", laid_backstep_isa_table)], narrowed := true }
def ImagePartnerUptoSaid : Prop := imagePartnerUptoRow.holds Tryd.pinned (OpenSpec.upto imagePartnerSpec)

end Rows
end Go.Proofs.YthakiaicnhkfjaaDoor

/-
  NARROWER THAN 'FOR EVERY INPUT', by the rows' own cells (each row's printed sentence says how): IsaValid: laid · IsaInverts: laid · IsaUnused: laid · IsaTwice: laid · IsaTargets: laid · IsaMoves: laid · IsaNames: laid · IsaJumps: laid.
  DERIVED. THE GIVEN ROWS OF THIS SEAT. 8 by the template 'for every input the law returns true; each argument reads behind the call as it read before'; 0 by the template 'total and deterministic' (their statements: YtfcfmljndlmkbaaDoorTotals.lean).
  GIVEN WITH THE SEED: the statements are not yours to turn. If you find one false, say at which input.
  Laid BY PROGRAM, IN A SANDBOX (cutbox-rows.mjs): the forced cells as the released guide's own fill.sh prints them over the translation fd8ec1f337b9323d… (all of the seat's roots in one cut). By AI agents, Wed Nov 11 2026. No macro, syntax, notation, axiom, sorry.
-/
import Derived.Test.YtfcfmljndlmkbaaDoorChecked
import GoSem.Claim
import GoSem.ClaimJoined
import GoSem.ClaimMapViews
import Derived.JoinedTies
import Derived.KernelRfl
namespace Go.Proofs.YtfcfmljndlmkbaaDoor
/- THE CELL 'sum', in the pinned program and in every row, IS THE sha256 OF THE DUMP (.gsa) THAT YtfcfmljndlmkbaaDoorProg.lean LOADS. Nothing in Lean hashes anything: it is a label: what it is worth is what the hold of that sum in a sandbox is worth. -/
noncomputable def Tryd.pinned : Pinned := { name := "ytfcfmljndlmkbaadoor", sum := "fd8ec1f337b9323dc8968e635d5106e80931093f3530738afb7585370fbd5af4", checked := Tryd.checked }
namespace Rows
def none {H : Type} : Left H := { results := [], args := [] }

/- WHAT THE LISTED PACKAGE-LEVEL VARIABLES READ AS WHEN THE CALL BEGINS. Each datum BY PROGRAM (the guide's laid-datum.mjs) off the statement by which the dump's own 'gosem.cut.vars' lays the variable. In a bare row this is a premise. The card (YtfcfmljndlmkbaaDoorCards.lean) ties it to the program's text. -/
def laid_backstep_isa_table {H : Type} : DataW H := .agg [.agg [.lit (.string [110, 111, 112]), .lit (.int .i64 0)], .agg [.lit (.string [97, 100, 100]), .lit (.int .i64 2)], .agg [.lit (.string [115, 117, 98]), .lit (.int .i64 2)], .agg [.lit (.string [120, 111, 114]), .lit (.int .i64 2)], .agg [.lit (.string [97, 100, 100, 105]), .lit (.int .i64 2)], .agg [.lit (.string [115, 117, 98, 105]), .lit (.int .i64 2)], .agg [.lit (.string [120, 111, 114, 105]), .lit (.int .i64 2)], .agg [.lit (.string [115, 119, 97, 112]), .lit (.int .i64 2)], .agg [.lit (.string [110, 101, 103]), .lit (.int .i64 1)], .agg [.lit (.string [99, 97, 108, 99]), .lit (.int .i64 4)], .agg [.lit (.string [109, 101, 109]), .lit (.int .i64 2)], .agg [.lit (.string [105, 100, 120]), .lit (.int .i64 4)], .agg [.lit (.string [112, 117, 115, 104]), .lit (.int .i64 2)], .agg [.lit (.string [112, 111, 112]), .lit (.int .i64 2)], .agg [.lit (.string [116, 111, 112]), .lit (.int .i64 2)], .agg [.lit (.string [115, 105, 122, 101]), .lit (.int .i64 2)], .agg [.lit (.string [115, 119, 97, 112, 115]), .lit (.int .i64 2)], .agg [.lit (.string [114, 101, 97, 100]), .lit (.int .i64 1)], .agg [.lit (.string [117, 110, 114, 101, 97, 100]), .lit (.int .i64 1)], .agg [.lit (.string [119, 114, 105, 116, 101]), .lit (.int .i64 1)], .agg [.lit (.string [117, 110, 119, 114, 105, 116, 101]), .lit (.int .i64 1)], .agg [.lit (.string [122, 101, 114, 111]), .lit (.int .i64 2)], .agg [.lit (.string [106, 109, 112]), .lit (.int .i64 1)], .agg [.lit (.string [106, 109, 112, 122]), .lit (.int .i64 2)], .agg [.lit (.string [106, 109, 112, 110]), .lit (.int .i64 2)], .agg [.lit (.string [108, 97, 110, 100]), .lit (.int .i64 1)], .agg [.lit (.string [108, 97, 110, 100, 122]), .lit (.int .i64 2)], .agg [.lit (.string [108, 97, 110, 100, 110]), .lit (.int .i64 2)], .agg [.lit (.string [102, 114, 97, 109, 101]), .lit (.int .i64 2)], .agg [.lit (.string [117, 110, 102, 114, 97, 109, 101]), .lit (.int .i64 2)], .agg [.lit (.string [99, 97, 108, 108]), .lit (.int .i64 1)], .agg [.lit (.string [117, 110, 99, 97, 108, 108]), .lit (.int .i64 1)], .agg [.lit (.string [115, 116, 97, 114, 116]), .lit (.int .i64 1)], .agg [.lit (.string [101, 110, 100]), .lit (.int .i64 1)], .agg [.lit (.string [104, 97, 108, 116]), .lit (.int .i64 0)]]

/-- 'backsteplaw21.IsaValid': WHATEVER THE INPUT: true; the input reads as it did. -/
def isaValidSpec : ChangeSpec := { name := "isaValid", fn := fun _ => fun
  | [d] => { results := [.lit (.bool true)], args := [d] }
  | _ => none }
def isaValidRow : OpenClaim := { program := "ytfcfmljndlmkbaadoor", sum := "fd8ec1f337b9323dc8968e635d5106e80931093f3530738afb7585370fbd5af4", func := "backstep/backsteplaw21.IsaValid", spec := "isaValid", named := ["backstep/isa.table"], apart := false, laid := [("backstep/isa.table", laid_backstep_isa_table)] }
def IsaValidSaid : Prop := isaValidRow.holds Tryd.pinned (OpenSpec.ofChange isaValidSpec)

/-- ITS FALSE NEIGHBOUR: 'it returns false'. Refute it at one input. -/
def isaValidWrong : ChangeSpec := { name := "isaValid", fn := fun _ => fun
  | [d] => { results := [.lit (.bool false)], args := [d] }
  | _ => none }
def IsaValidWrongFalsely : Prop := isaValidRow.holds Tryd.pinned (OpenSpec.ofChange isaValidWrong)

/-- 'backsteplaw21.IsaInverts': WHATEVER THE INPUT: true; the input reads as it did. -/
def isaInvertsSpec : ChangeSpec := { name := "isaInverts", fn := fun _ => fun
  | [d] => { results := [.lit (.bool true)], args := [d] }
  | _ => none }
def isaInvertsRow : OpenClaim := { program := "ytfcfmljndlmkbaadoor", sum := "fd8ec1f337b9323dc8968e635d5106e80931093f3530738afb7585370fbd5af4", func := "backstep/backsteplaw21.IsaInverts", spec := "isaInverts", named := ["backstep/isa.table"], apart := false, laid := [("backstep/isa.table", laid_backstep_isa_table)] }
def IsaInvertsSaid : Prop := isaInvertsRow.holds Tryd.pinned (OpenSpec.ofChange isaInvertsSpec)

/-- ITS FALSE NEIGHBOUR: 'it returns false'. Refute it at one input. -/
def isaInvertsWrong : ChangeSpec := { name := "isaInverts", fn := fun _ => fun
  | [d] => { results := [.lit (.bool false)], args := [d] }
  | _ => none }
def IsaInvertsWrongFalsely : Prop := isaInvertsRow.holds Tryd.pinned (OpenSpec.ofChange isaInvertsWrong)

/-- 'backsteplaw21.IsaUnused': WHATEVER THE INPUT: true; the input reads as it did. -/
def isaUnusedSpec : ChangeSpec := { name := "isaUnused", fn := fun _ => fun
  | [d1, d2] => { results := [.lit (.bool true)], args := [d1, d2] }
  | _ => none }
def isaUnusedRow : OpenClaim := { program := "ytfcfmljndlmkbaadoor", sum := "fd8ec1f337b9323dc8968e635d5106e80931093f3530738afb7585370fbd5af4", func := "backstep/backsteplaw21.IsaUnused", spec := "isaUnused", named := ["backstep/isa.table"], apart := false, laid := [("backstep/isa.table", laid_backstep_isa_table)] }
def IsaUnusedSaid : Prop := isaUnusedRow.holds Tryd.pinned (OpenSpec.ofChange isaUnusedSpec)

/-- ITS FALSE NEIGHBOUR: 'it returns false'. Refute it at one input. -/
def isaUnusedWrong : ChangeSpec := { name := "isaUnused", fn := fun _ => fun
  | [d1, d2] => { results := [.lit (.bool false)], args := [d1, d2] }
  | _ => none }
def IsaUnusedWrongFalsely : Prop := isaUnusedRow.holds Tryd.pinned (OpenSpec.ofChange isaUnusedWrong)

/-- 'backsteplaw21.IsaTwice': WHATEVER THE INPUT: true; the input reads as it did. -/
def isaTwiceSpec : ChangeSpec := { name := "isaTwice", fn := fun _ => fun
  | [d] => { results := [.lit (.bool true)], args := [d] }
  | _ => none }
def isaTwiceRow : OpenClaim := { program := "ytfcfmljndlmkbaadoor", sum := "fd8ec1f337b9323dc8968e635d5106e80931093f3530738afb7585370fbd5af4", func := "backstep/backsteplaw21.IsaTwice", spec := "isaTwice", named := ["backstep/isa.table"], apart := false, laid := [("backstep/isa.table", laid_backstep_isa_table)] }
def IsaTwiceSaid : Prop := isaTwiceRow.holds Tryd.pinned (OpenSpec.ofChange isaTwiceSpec)

/-- ITS FALSE NEIGHBOUR: 'it returns false'. Refute it at one input. -/
def isaTwiceWrong : ChangeSpec := { name := "isaTwice", fn := fun _ => fun
  | [d] => { results := [.lit (.bool false)], args := [d] }
  | _ => none }
def IsaTwiceWrongFalsely : Prop := isaTwiceRow.holds Tryd.pinned (OpenSpec.ofChange isaTwiceWrong)

/-- 'backsteplaw21.IsaTargets': WHATEVER THE INPUT: true; the input reads as it did. -/
def isaTargetsSpec : ChangeSpec := { name := "isaTargets", fn := fun _ => fun
  | [d1, d2] => { results := [.lit (.bool true)], args := [d1, d2] }
  | _ => none }
def isaTargetsRow : OpenClaim := { program := "ytfcfmljndlmkbaadoor", sum := "fd8ec1f337b9323dc8968e635d5106e80931093f3530738afb7585370fbd5af4", func := "backstep/backsteplaw21.IsaTargets", spec := "isaTargets", named := ["backstep/isa.table"], apart := false, laid := [("backstep/isa.table", laid_backstep_isa_table)] }
def IsaTargetsSaid : Prop := isaTargetsRow.holds Tryd.pinned (OpenSpec.ofChange isaTargetsSpec)

/-- ITS FALSE NEIGHBOUR: 'it returns false'. Refute it at one input. -/
def isaTargetsWrong : ChangeSpec := { name := "isaTargets", fn := fun _ => fun
  | [d1, d2] => { results := [.lit (.bool false)], args := [d1, d2] }
  | _ => none }
def IsaTargetsWrongFalsely : Prop := isaTargetsRow.holds Tryd.pinned (OpenSpec.ofChange isaTargetsWrong)

/-- 'backsteplaw21.IsaMoves': WHATEVER THE INPUT: true; the input reads as it did. -/
def isaMovesSpec : ChangeSpec := { name := "isaMoves", fn := fun _ => fun
  | [d1, d2, d3] => { results := [.lit (.bool true)], args := [d1, d2, d3] }
  | _ => none }
def isaMovesRow : OpenClaim := { program := "ytfcfmljndlmkbaadoor", sum := "fd8ec1f337b9323dc8968e635d5106e80931093f3530738afb7585370fbd5af4", func := "backstep/backsteplaw21.IsaMoves", spec := "isaMoves", named := ["backstep/isa.table"], apart := false, laid := [("backstep/isa.table", laid_backstep_isa_table)] }
def IsaMovesSaid : Prop := isaMovesRow.holds Tryd.pinned (OpenSpec.ofChange isaMovesSpec)

/-- ITS FALSE NEIGHBOUR: 'it returns false'. Refute it at one input. -/
def isaMovesWrong : ChangeSpec := { name := "isaMoves", fn := fun _ => fun
  | [d1, d2, d3] => { results := [.lit (.bool false)], args := [d1, d2, d3] }
  | _ => none }
def IsaMovesWrongFalsely : Prop := isaMovesRow.holds Tryd.pinned (OpenSpec.ofChange isaMovesWrong)

/-- 'backsteplaw21.IsaNames': WHATEVER THE INPUT: true; the input reads as it did. -/
def isaNamesSpec : ChangeSpec := { name := "isaNames", fn := fun _ => fun
  | [d] => { results := [.lit (.bool true)], args := [d] }
  | _ => none }
def isaNamesRow : OpenClaim := { program := "ytfcfmljndlmkbaadoor", sum := "fd8ec1f337b9323dc8968e635d5106e80931093f3530738afb7585370fbd5af4", func := "backstep/backsteplaw21.IsaNames", spec := "isaNames", named := ["backstep/isa.table"], apart := false, laid := [("backstep/isa.table", laid_backstep_isa_table)] }
def IsaNamesSaid : Prop := isaNamesRow.holds Tryd.pinned (OpenSpec.ofChange isaNamesSpec)

/-- ITS FALSE NEIGHBOUR: 'it returns false'. Refute it at one input. -/
def isaNamesWrong : ChangeSpec := { name := "isaNames", fn := fun _ => fun
  | [d] => { results := [.lit (.bool false)], args := [d] }
  | _ => none }
def IsaNamesWrongFalsely : Prop := isaNamesRow.holds Tryd.pinned (OpenSpec.ofChange isaNamesWrong)

/-- 'backsteplaw21.IsaJumps': WHATEVER THE INPUT: true; the input reads as it did. -/
def isaJumpsSpec : ChangeSpec := { name := "isaJumps", fn := fun _ => fun
  | [d] => { results := [.lit (.bool true)], args := [d] }
  | _ => none }
def isaJumpsRow : OpenClaim := { program := "ytfcfmljndlmkbaadoor", sum := "fd8ec1f337b9323dc8968e635d5106e80931093f3530738afb7585370fbd5af4", func := "backstep/backsteplaw21.IsaJumps", spec := "isaJumps", named := ["backstep/isa.table"], apart := false, laid := [("backstep/isa.table", laid_backstep_isa_table)] }
def IsaJumpsSaid : Prop := isaJumpsRow.holds Tryd.pinned (OpenSpec.ofChange isaJumpsSpec)

/-- ITS FALSE NEIGHBOUR: 'it returns false'. Refute it at one input. -/
def isaJumpsWrong : ChangeSpec := { name := "isaJumps", fn := fun _ => fun
  | [d] => { results := [.lit (.bool false)], args := [d] }
  | _ => none }
def IsaJumpsWrongFalsely : Prop := isaJumpsRow.holds Tryd.pinned (OpenSpec.ofChange isaJumpsWrong)

/- THE SECOND FORM. 'bulk': how many values and letters a reading holds, each counted each time it is reached (what is shared counts as often as it is met; a slice's spare places count too). A statement '..UptoSaid' is the law's where the arguments, and the package variables that the reading takes, are together of bulk at most 1048576: NARROWER than '..Said'. Prove '..Said' where nothing that the law and all that it calls make is longer than what came in: it says more and counts as full. Else prove '..UptoSaid'. A law counts once. -/
mutual
def uptoBulk {H : Type} : DataW H → Nat
  | .lit (.string bytes) => bytes.length + 1
  | .lit _ => 1
  | .nil => 1
  | .ptr d => uptoBulk d + 1
  | .slice elems spare => uptoBulkAll elems + uptoBulkAll spare + 1
  | .agg parts => uptoBulkAll parts + 1
  | .iface _ d => uptoBulk d + 1
  | .map entries => uptoBulkEntries entries + 1
  | .held _ => 1
def uptoBulkAll {H : Type} : List (DataW H) → Nat
  | [] => 0
  | d :: r => uptoBulk d + uptoBulkAll r
def uptoBulkEntries {H : Type} : List (Lit × DataW H) → Nat
  | [] => 0
  | x :: r => uptoBulkEntry x + uptoBulkEntries r
def uptoBulkEntry {H : Type} : Lit × DataW H → Nat
  | (.string bytes, d) => bytes.length + uptoBulk d + 1
  | (_, d) => uptoBulk d + 1
 end
def uptoSmall : (H : Type) → List (DataW H) → Bool := fun _ ds => decide (uptoBulkAll ds ≤ 1048576)
def OpenSpec.upto (s : _root_.Go.ChangeSpec) : _root_.Go.OpenSpec := { _root_.Go.OpenSpec.ofChange s with cond := some uptoSmall }

/-- 'backsteplaw21.IsaValid', WHERE WHAT IT READS IS OF BULK AT MOST 1048576: true; the input reads as it did. -/
def isaValidUptoRow : OpenClaim := { program := "ytfcfmljndlmkbaadoor", sum := "fd8ec1f337b9323dc8968e635d5106e80931093f3530738afb7585370fbd5af4", func := "backstep/backsteplaw21.IsaValid", spec := "isaValid", named := ["backstep/isa.table"], apart := false, laid := [("backstep/isa.table", laid_backstep_isa_table)], narrowed := true }
def IsaValidUptoSaid : Prop := isaValidUptoRow.holds Tryd.pinned (OpenSpec.upto isaValidSpec)

/-- 'backsteplaw21.IsaInverts', WHERE WHAT IT READS IS OF BULK AT MOST 1048576: true; the input reads as it did. -/
def isaInvertsUptoRow : OpenClaim := { program := "ytfcfmljndlmkbaadoor", sum := "fd8ec1f337b9323dc8968e635d5106e80931093f3530738afb7585370fbd5af4", func := "backstep/backsteplaw21.IsaInverts", spec := "isaInverts", named := ["backstep/isa.table"], apart := false, laid := [("backstep/isa.table", laid_backstep_isa_table)], narrowed := true }
def IsaInvertsUptoSaid : Prop := isaInvertsUptoRow.holds Tryd.pinned (OpenSpec.upto isaInvertsSpec)

/-- 'backsteplaw21.IsaUnused', WHERE WHAT IT READS IS OF BULK AT MOST 1048576: true; the input reads as it did. -/
def isaUnusedUptoRow : OpenClaim := { program := "ytfcfmljndlmkbaadoor", sum := "fd8ec1f337b9323dc8968e635d5106e80931093f3530738afb7585370fbd5af4", func := "backstep/backsteplaw21.IsaUnused", spec := "isaUnused", named := ["backstep/isa.table"], apart := false, laid := [("backstep/isa.table", laid_backstep_isa_table)], narrowed := true }
def IsaUnusedUptoSaid : Prop := isaUnusedUptoRow.holds Tryd.pinned (OpenSpec.upto isaUnusedSpec)

/-- 'backsteplaw21.IsaTwice', WHERE WHAT IT READS IS OF BULK AT MOST 1048576: true; the input reads as it did. -/
def isaTwiceUptoRow : OpenClaim := { program := "ytfcfmljndlmkbaadoor", sum := "fd8ec1f337b9323dc8968e635d5106e80931093f3530738afb7585370fbd5af4", func := "backstep/backsteplaw21.IsaTwice", spec := "isaTwice", named := ["backstep/isa.table"], apart := false, laid := [("backstep/isa.table", laid_backstep_isa_table)], narrowed := true }
def IsaTwiceUptoSaid : Prop := isaTwiceUptoRow.holds Tryd.pinned (OpenSpec.upto isaTwiceSpec)

/-- 'backsteplaw21.IsaTargets', WHERE WHAT IT READS IS OF BULK AT MOST 1048576: true; the input reads as it did. -/
def isaTargetsUptoRow : OpenClaim := { program := "ytfcfmljndlmkbaadoor", sum := "fd8ec1f337b9323dc8968e635d5106e80931093f3530738afb7585370fbd5af4", func := "backstep/backsteplaw21.IsaTargets", spec := "isaTargets", named := ["backstep/isa.table"], apart := false, laid := [("backstep/isa.table", laid_backstep_isa_table)], narrowed := true }
def IsaTargetsUptoSaid : Prop := isaTargetsUptoRow.holds Tryd.pinned (OpenSpec.upto isaTargetsSpec)

/-- 'backsteplaw21.IsaMoves', WHERE WHAT IT READS IS OF BULK AT MOST 1048576: true; the input reads as it did. -/
def isaMovesUptoRow : OpenClaim := { program := "ytfcfmljndlmkbaadoor", sum := "fd8ec1f337b9323dc8968e635d5106e80931093f3530738afb7585370fbd5af4", func := "backstep/backsteplaw21.IsaMoves", spec := "isaMoves", named := ["backstep/isa.table"], apart := false, laid := [("backstep/isa.table", laid_backstep_isa_table)], narrowed := true }
def IsaMovesUptoSaid : Prop := isaMovesUptoRow.holds Tryd.pinned (OpenSpec.upto isaMovesSpec)

/-- 'backsteplaw21.IsaNames', WHERE WHAT IT READS IS OF BULK AT MOST 1048576: true; the input reads as it did. -/
def isaNamesUptoRow : OpenClaim := { program := "ytfcfmljndlmkbaadoor", sum := "fd8ec1f337b9323dc8968e635d5106e80931093f3530738afb7585370fbd5af4", func := "backstep/backsteplaw21.IsaNames", spec := "isaNames", named := ["backstep/isa.table"], apart := false, laid := [("backstep/isa.table", laid_backstep_isa_table)], narrowed := true }
def IsaNamesUptoSaid : Prop := isaNamesUptoRow.holds Tryd.pinned (OpenSpec.upto isaNamesSpec)

/-- 'backsteplaw21.IsaJumps', WHERE WHAT IT READS IS OF BULK AT MOST 1048576: true; the input reads as it did. -/
def isaJumpsUptoRow : OpenClaim := { program := "ytfcfmljndlmkbaadoor", sum := "fd8ec1f337b9323dc8968e635d5106e80931093f3530738afb7585370fbd5af4", func := "backstep/backsteplaw21.IsaJumps", spec := "isaJumps", named := ["backstep/isa.table"], apart := false, laid := [("backstep/isa.table", laid_backstep_isa_table)], narrowed := true }
def IsaJumpsUptoSaid : Prop := isaJumpsUptoRow.holds Tryd.pinned (OpenSpec.upto isaJumpsSpec)

end Rows
end Go.Proofs.YtfcfmljndlmkbaaDoor

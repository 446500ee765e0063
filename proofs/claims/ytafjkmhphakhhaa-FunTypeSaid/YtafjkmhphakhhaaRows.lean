/-
  NARROWER THAN 'FOR EVERY INPUT', by the rows' own cells (each row's printed sentence says how): FunValid: loops · FunType: loops · FunCalls: loops · FunOrder: loops · FunWraps: loops · FunPrefix: loops · FunDistinct: loops.
  DERIVED. THE GIVEN ROWS OF THIS SEAT. 8 by the template 'for every input the law returns true; each argument reads behind the call as it read before'; 0 by the template 'total and deterministic' (their statements: YtafjkmhphakhhaaTotals.lean).
  GIVEN WITH THE SEED: the statements are not yours to turn. If you find one false, say at which input.
  Laid BY PROGRAM, IN A SANDBOX (cutbox-rows.mjs): the forced cells as the released guide's own fill.sh prints them over the translation a39cb4d8436513c6… (all of the seat's roots in one cut). By AI agents, Wed Nov 11 2026. No macro, syntax, notation, axiom, sorry.
-/
import Derived.Test.YtafjkmhphakhhaaChecked
import GoSem.Claim
import GoSem.ClaimJoined
import GoSem.ClaimMapViews
import Derived.JoinedTies
import Derived.KernelRfl
namespace Go.Proofs.Ytafjkmhphakhhaa
/- THE CELL 'sum', in the pinned program and in every row, IS THE sha256 OF THE DUMP (.gsa) THAT YtafjkmhphakhhaaProg.lean LOADS. Nothing in Lean hashes anything: it is a label: what it is worth is what the hold of that sum in a sandbox is worth. -/
noncomputable def Try.pinned : Pinned := { name := "ytafjkmhphakhhaa", sum := "a39cb4d8436513c601b05f97704ed91227d700bed94fed3defff6e53bae3f7ff", checked := Try.checked }
namespace Rows
def none {H : Type} : Left H := { results := [], args := [] }

/-- 'backsteplaw35.FunValid': WHATEVER THE INPUT: true; the input reads as it did. -/
def funValidSpec : ChangeSpec := { name := "funValid", fn := fun _ => fun
  | [d] => { results := [.lit (.bool true)], args := [d] }
  | _ => none }
def funValidRow : OpenClaim := { program := "ytafjkmhphakhhaa", sum := "a39cb4d8436513c601b05f97704ed91227d700bed94fed3defff6e53bae3f7ff", func := "backstep/backsteplaw35.FunValid", spec := "funValid", unfollowed := true, recurses := true, loops := true, apart := false }
def FunValidSaid : Prop := funValidRow.holds Try.pinned (OpenSpec.ofChange funValidSpec)

/-- ITS FALSE NEIGHBOUR: 'it returns false'. Refute it at one input. -/
def funValidWrong : ChangeSpec := { name := "funValid", fn := fun _ => fun
  | [d] => { results := [.lit (.bool false)], args := [d] }
  | _ => none }
def FunValidWrongFalsely : Prop := funValidRow.holds Try.pinned (OpenSpec.ofChange funValidWrong)

/-- 'backsteplaw35.FunType': WHATEVER THE INPUT: true; the input reads as it did. -/
def funTypeSpec : ChangeSpec := { name := "funType", fn := fun _ => fun
  | [d1, d2, d3] => { results := [.lit (.bool true)], args := [d1, d2, d3] }
  | _ => none }
def funTypeRow : OpenClaim := { program := "ytafjkmhphakhhaa", sum := "a39cb4d8436513c601b05f97704ed91227d700bed94fed3defff6e53bae3f7ff", func := "backstep/backsteplaw35.FunType", spec := "funType", unfollowed := true, recurses := true, loops := true, apart := false }
def FunTypeSaid : Prop := funTypeRow.holds Try.pinned (OpenSpec.ofChange funTypeSpec)

/-- ITS FALSE NEIGHBOUR: 'it returns false'. Refute it at one input. -/
def funTypeWrong : ChangeSpec := { name := "funType", fn := fun _ => fun
  | [d1, d2, d3] => { results := [.lit (.bool false)], args := [d1, d2, d3] }
  | _ => none }
def FunTypeWrongFalsely : Prop := funTypeRow.holds Try.pinned (OpenSpec.ofChange funTypeWrong)

/-- 'backsteplaw35.FunCalls': WHATEVER THE INPUT: true; the input reads as it did. -/
def funCallsSpec : ChangeSpec := { name := "funCalls", fn := fun _ => fun
  | [d1, d2, d3] => { results := [.lit (.bool true)], args := [d1, d2, d3] }
  | _ => none }
def funCallsRow : OpenClaim := { program := "ytafjkmhphakhhaa", sum := "a39cb4d8436513c601b05f97704ed91227d700bed94fed3defff6e53bae3f7ff", func := "backstep/backsteplaw35.FunCalls", spec := "funCalls", unfollowed := true, recurses := true, loops := true, apart := false }
def FunCallsSaid : Prop := funCallsRow.holds Try.pinned (OpenSpec.ofChange funCallsSpec)

/-- ITS FALSE NEIGHBOUR: 'it returns false'. Refute it at one input. -/
def funCallsWrong : ChangeSpec := { name := "funCalls", fn := fun _ => fun
  | [d1, d2, d3] => { results := [.lit (.bool false)], args := [d1, d2, d3] }
  | _ => none }
def FunCallsWrongFalsely : Prop := funCallsRow.holds Try.pinned (OpenSpec.ofChange funCallsWrong)

/-- 'backsteplaw35.FunOrder': WHATEVER THE INPUT: true; the input reads as it did. -/
def funOrderSpec : ChangeSpec := { name := "funOrder", fn := fun _ => fun
  | [d1, d2] => { results := [.lit (.bool true)], args := [d1, d2] }
  | _ => none }
def funOrderRow : OpenClaim := { program := "ytafjkmhphakhhaa", sum := "a39cb4d8436513c601b05f97704ed91227d700bed94fed3defff6e53bae3f7ff", func := "backstep/backsteplaw35.FunOrder", spec := "funOrder", unfollowed := true, recurses := true, loops := true, apart := false }
def FunOrderSaid : Prop := funOrderRow.holds Try.pinned (OpenSpec.ofChange funOrderSpec)

/-- ITS FALSE NEIGHBOUR: 'it returns false'. Refute it at one input. -/
def funOrderWrong : ChangeSpec := { name := "funOrder", fn := fun _ => fun
  | [d1, d2] => { results := [.lit (.bool false)], args := [d1, d2] }
  | _ => none }
def FunOrderWrongFalsely : Prop := funOrderRow.holds Try.pinned (OpenSpec.ofChange funOrderWrong)

/-- 'backsteplaw35.FunWraps': WHATEVER THE INPUT: true; the input reads as it did. -/
def funWrapsSpec : ChangeSpec := { name := "funWraps", fn := fun _ => fun
  | [d1, d2, d3] => { results := [.lit (.bool true)], args := [d1, d2, d3] }
  | _ => none }
def funWrapsRow : OpenClaim := { program := "ytafjkmhphakhhaa", sum := "a39cb4d8436513c601b05f97704ed91227d700bed94fed3defff6e53bae3f7ff", func := "backstep/backsteplaw35.FunWraps", spec := "funWraps", unfollowed := true, recurses := true, loops := true, apart := false }
def FunWrapsSaid : Prop := funWrapsRow.holds Try.pinned (OpenSpec.ofChange funWrapsSpec)

/-- ITS FALSE NEIGHBOUR: 'it returns false'. Refute it at one input. -/
def funWrapsWrong : ChangeSpec := { name := "funWraps", fn := fun _ => fun
  | [d1, d2, d3] => { results := [.lit (.bool false)], args := [d1, d2, d3] }
  | _ => none }
def FunWrapsWrongFalsely : Prop := funWrapsRow.holds Try.pinned (OpenSpec.ofChange funWrapsWrong)

/-- 'backsteplaw35.FunPrefix': WHATEVER THE INPUT: true; the input reads as it did. -/
def funPrefixSpec : ChangeSpec := { name := "funPrefix", fn := fun _ => fun
  | [d] => { results := [.lit (.bool true)], args := [d] }
  | _ => none }
def funPrefixRow : OpenClaim := { program := "ytafjkmhphakhhaa", sum := "a39cb4d8436513c601b05f97704ed91227d700bed94fed3defff6e53bae3f7ff", func := "backstep/backsteplaw35.FunPrefix", spec := "funPrefix", unfollowed := true, recurses := true, loops := true, apart := false }
def FunPrefixSaid : Prop := funPrefixRow.holds Try.pinned (OpenSpec.ofChange funPrefixSpec)

/-- ITS FALSE NEIGHBOUR: 'it returns false'. Refute it at one input. -/
def funPrefixWrong : ChangeSpec := { name := "funPrefix", fn := fun _ => fun
  | [d] => { results := [.lit (.bool false)], args := [d] }
  | _ => none }
def FunPrefixWrongFalsely : Prop := funPrefixRow.holds Try.pinned (OpenSpec.ofChange funPrefixWrong)

/-- 'backsteplaw35.FunDistinct': WHATEVER THE INPUT: true; the input reads as it did. -/
def funDistinctSpec : ChangeSpec := { name := "funDistinct", fn := fun _ => fun
  | [d] => { results := [.lit (.bool true)], args := [d] }
  | _ => none }
def funDistinctRow : OpenClaim := { program := "ytafjkmhphakhhaa", sum := "a39cb4d8436513c601b05f97704ed91227d700bed94fed3defff6e53bae3f7ff", func := "backstep/backsteplaw35.FunDistinct", spec := "funDistinct", unfollowed := true, recurses := true, loops := true, apart := false }
def FunDistinctSaid : Prop := funDistinctRow.holds Try.pinned (OpenSpec.ofChange funDistinctSpec)

/-- ITS FALSE NEIGHBOUR: 'it returns false'. Refute it at one input. -/
def funDistinctWrong : ChangeSpec := { name := "funDistinct", fn := fun _ => fun
  | [d] => { results := [.lit (.bool false)], args := [d] }
  | _ => none }
def FunDistinctWrongFalsely : Prop := funDistinctRow.holds Try.pinned (OpenSpec.ofChange funDistinctWrong)

/-- 'backsteplaw35.FunEqual': WHATEVER THE INPUT: true; the input reads as it did. -/
def funEqualSpec : ChangeSpec := { name := "funEqual", fn := fun _ => fun
  | [d1, d2, d3] => { results := [.lit (.bool true)], args := [d1, d2, d3] }
  | _ => none }
def funEqualRow : OpenClaim := { program := "ytafjkmhphakhhaa", sum := "a39cb4d8436513c601b05f97704ed91227d700bed94fed3defff6e53bae3f7ff", func := "backstep/backsteplaw35.FunEqual", spec := "funEqual", unfollowed := true, recurses := true, apart := false }
def FunEqualSaid : Prop := funEqualRow.holds Try.pinned (OpenSpec.ofChange funEqualSpec)

/-- ITS FALSE NEIGHBOUR: 'it returns false'. Refute it at one input. -/
def funEqualWrong : ChangeSpec := { name := "funEqual", fn := fun _ => fun
  | [d1, d2, d3] => { results := [.lit (.bool false)], args := [d1, d2, d3] }
  | _ => none }
def FunEqualWrongFalsely : Prop := funEqualRow.holds Try.pinned (OpenSpec.ofChange funEqualWrong)

/- THE SECOND FORM. 'bulk': how many values and letters a reading holds, each counted each time it is reached (what is shared counts as often as it is met; a slice's spare places count too). A statement '..UptoSaid' is the law's where the arguments, and the package variables that the reading takes, are together of bulk at most 1048576: NARROWER than '..Said'. Prove '..Said' where nothing that the law and all that it calls make is longer than what came in: it says more and counts as full. Else prove '..UptoSaid'. A law counts once. -/
mutual
def uptoBulk {H : Type} : DataW H → Nat
  | .lit (.string bytes) => bytes.length + 1
  | .lit _ => 1
  | .nil => 1
  | .ptr d => uptoBulk d + 1
  | .slice elems spare => uptoBulkAll elems + uptoBulkAll spare + 1
  | .agg parts => uptoBulkAll parts + 1
  | .iface _ d => uptoBulk d + 1
  | .map entries => uptoBulkEntries entries + 1
  | .held _ => 1
def uptoBulkAll {H : Type} : List (DataW H) → Nat
  | [] => 0
  | d :: r => uptoBulk d + uptoBulkAll r
def uptoBulkEntries {H : Type} : List (Lit × DataW H) → Nat
  | [] => 0
  | x :: r => uptoBulkEntry x + uptoBulkEntries r
def uptoBulkEntry {H : Type} : Lit × DataW H → Nat
  | (.string bytes, d) => bytes.length + uptoBulk d + 1
  | (_, d) => uptoBulk d + 1
 end
def uptoSmall : (H : Type) → List (DataW H) → Bool := fun _ ds => decide (uptoBulkAll ds ≤ 1048576)
def OpenSpec.upto (s : _root_.Go.ChangeSpec) : _root_.Go.OpenSpec := { _root_.Go.OpenSpec.ofChange s with cond := some uptoSmall }

/-- 'backsteplaw35.FunValid', WHERE WHAT IT READS IS OF BULK AT MOST 1048576: true; the input reads as it did. -/
def funValidUptoRow : OpenClaim := { program := "ytafjkmhphakhhaa", sum := "a39cb4d8436513c601b05f97704ed91227d700bed94fed3defff6e53bae3f7ff", func := "backstep/backsteplaw35.FunValid", spec := "funValid", unfollowed := true, recurses := true, loops := true, apart := false, narrowed := true }
def FunValidUptoSaid : Prop := funValidUptoRow.holds Try.pinned (OpenSpec.upto funValidSpec)

/-- 'backsteplaw35.FunType', WHERE WHAT IT READS IS OF BULK AT MOST 1048576: true; the input reads as it did. -/
def funTypeUptoRow : OpenClaim := { program := "ytafjkmhphakhhaa", sum := "a39cb4d8436513c601b05f97704ed91227d700bed94fed3defff6e53bae3f7ff", func := "backstep/backsteplaw35.FunType", spec := "funType", unfollowed := true, recurses := true, loops := true, apart := false, narrowed := true }
def FunTypeUptoSaid : Prop := funTypeUptoRow.holds Try.pinned (OpenSpec.upto funTypeSpec)

/-- 'backsteplaw35.FunCalls', WHERE WHAT IT READS IS OF BULK AT MOST 1048576: true; the input reads as it did. -/
def funCallsUptoRow : OpenClaim := { program := "ytafjkmhphakhhaa", sum := "a39cb4d8436513c601b05f97704ed91227d700bed94fed3defff6e53bae3f7ff", func := "backstep/backsteplaw35.FunCalls", spec := "funCalls", unfollowed := true, recurses := true, loops := true, apart := false, narrowed := true }
def FunCallsUptoSaid : Prop := funCallsUptoRow.holds Try.pinned (OpenSpec.upto funCallsSpec)

/-- 'backsteplaw35.FunOrder', WHERE WHAT IT READS IS OF BULK AT MOST 1048576: true; the input reads as it did. -/
def funOrderUptoRow : OpenClaim := { program := "ytafjkmhphakhhaa", sum := "a39cb4d8436513c601b05f97704ed91227d700bed94fed3defff6e53bae3f7ff", func := "backstep/backsteplaw35.FunOrder", spec := "funOrder", unfollowed := true, recurses := true, loops := true, apart := false, narrowed := true }
def FunOrderUptoSaid : Prop := funOrderUptoRow.holds Try.pinned (OpenSpec.upto funOrderSpec)

/-- 'backsteplaw35.FunWraps', WHERE WHAT IT READS IS OF BULK AT MOST 1048576: true; the input reads as it did. -/
def funWrapsUptoRow : OpenClaim := { program := "ytafjkmhphakhhaa", sum := "a39cb4d8436513c601b05f97704ed91227d700bed94fed3defff6e53bae3f7ff", func := "backstep/backsteplaw35.FunWraps", spec := "funWraps", unfollowed := true, recurses := true, loops := true, apart := false, narrowed := true }
def FunWrapsUptoSaid : Prop := funWrapsUptoRow.holds Try.pinned (OpenSpec.upto funWrapsSpec)

/-- 'backsteplaw35.FunPrefix', WHERE WHAT IT READS IS OF BULK AT MOST 1048576: true; the input reads as it did. -/
def funPrefixUptoRow : OpenClaim := { program := "ytafjkmhphakhhaa", sum := "a39cb4d8436513c601b05f97704ed91227d700bed94fed3defff6e53bae3f7ff", func := "backstep/backsteplaw35.FunPrefix", spec := "funPrefix", unfollowed := true, recurses := true, loops := true, apart := false, narrowed := true }
def FunPrefixUptoSaid : Prop := funPrefixUptoRow.holds Try.pinned (OpenSpec.upto funPrefixSpec)

/-- 'backsteplaw35.FunDistinct', WHERE WHAT IT READS IS OF BULK AT MOST 1048576: true; the input reads as it did. -/
def funDistinctUptoRow : OpenClaim := { program := "ytafjkmhphakhhaa", sum := "a39cb4d8436513c601b05f97704ed91227d700bed94fed3defff6e53bae3f7ff", func := "backstep/backsteplaw35.FunDistinct", spec := "funDistinct", unfollowed := true, recurses := true, loops := true, apart := false, narrowed := true }
def FunDistinctUptoSaid : Prop := funDistinctUptoRow.holds Try.pinned (OpenSpec.upto funDistinctSpec)

/-- 'backsteplaw35.FunEqual', WHERE WHAT IT READS IS OF BULK AT MOST 1048576: true; the input reads as it did. -/
def funEqualUptoRow : OpenClaim := { program := "ytafjkmhphakhhaa", sum := "a39cb4d8436513c601b05f97704ed91227d700bed94fed3defff6e53bae3f7ff", func := "backstep/backsteplaw35.FunEqual", spec := "funEqual", unfollowed := true, recurses := true, apart := false, narrowed := true }
def FunEqualUptoSaid : Prop := funEqualUptoRow.holds Try.pinned (OpenSpec.upto funEqualSpec)

end Rows
end Go.Proofs.Ytafjkmhphakhhaa

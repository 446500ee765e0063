/-
  NARROWER THAN 'FOR EVERY INPUT', by the rows' own cells (each row's printed sentence says how): FunevalLeast: loops · FunevalCalls: loops · FunevalSubtrees: loops · FunevalFuel: loops · FunevalOrder: loops · FunevalUnfolds: loops · FunevalArgs: loops.
  DERIVED. THE GIVEN ROWS OF THIS SEAT. 7 by the template 'for every input the law returns true; each argument reads behind the call as it read before'; 0 by the template 'total and deterministic' (their statements: YtgokgcnalgpiiaaTotals.lean).
  GIVEN WITH THE SEED: the statements are not yours to turn. If you find one false, say at which input.
  Laid BY PROGRAM, IN A SANDBOX (cutbox-rows.mjs): the forced cells as the released guide's own fill.sh prints them over the translation 7ae0f58e7799a7e6… (all of the seat's roots in one cut). By AI agents, Wed Nov 11 2026. No macro, syntax, notation, axiom, sorry.
-/
import Derived.Test.YtgokgcnalgpiiaaChecked
import GoSem.Claim
import GoSem.ClaimJoined
import GoSem.ClaimMapViews
import Derived.JoinedTies
import Derived.KernelRfl
namespace Go.Proofs.Ytgokgcnalgpiiaa
/- THE CELL 'sum', in the pinned program and in every row, IS THE sha256 OF THE DUMP (.gsa) THAT YtgokgcnalgpiiaaProg.lean LOADS. Nothing in Lean hashes anything: it is a label: what it is worth is what the hold of that sum in a sandbox is worth. -/
noncomputable def Try.pinned : Pinned := { name := "ytgokgcnalgpiiaa", sum := "7ae0f58e7799a7e6eec070ddf7092caff91dbae7ee74354f34a2426133f07c1f", checked := Try.checked }
namespace Rows
def none {H : Type} : Left H := { results := [], args := [] }

/-- 'backsteplaw37.FunevalLeast': WHATEVER THE INPUT: true; the input reads as it did. -/
def funevalLeastSpec : ChangeSpec := { name := "funevalLeast", fn := fun _ => fun
  | [d1, d2, d3, d4] => { results := [.lit (.bool true)], args := [d1, d2, d3, d4] }
  | _ => none }
def funevalLeastRow : OpenClaim := { program := "ytgokgcnalgpiiaa", sum := "7ae0f58e7799a7e6eec070ddf7092caff91dbae7ee74354f34a2426133f07c1f", func := "backstep/backsteplaw37.FunevalLeast", spec := "funevalLeast", inPlace := ["maps.clone"], unfollowed := true, recurses := true, loops := true, apart := false }
def FunevalLeastSaid : Prop := funevalLeastRow.holds Try.pinned (OpenSpec.ofChange funevalLeastSpec)

/-- ITS FALSE NEIGHBOUR: 'it returns false'. Refute it at one input. -/
def funevalLeastWrong : ChangeSpec := { name := "funevalLeast", fn := fun _ => fun
  | [d1, d2, d3, d4] => { results := [.lit (.bool false)], args := [d1, d2, d3, d4] }
  | _ => none }
def FunevalLeastWrongFalsely : Prop := funevalLeastRow.holds Try.pinned (OpenSpec.ofChange funevalLeastWrong)

/-- 'backsteplaw37.FunevalCalls': WHATEVER THE INPUT: true; the input reads as it did. -/
def funevalCallsSpec : ChangeSpec := { name := "funevalCalls", fn := fun _ => fun
  | [d1, d2, d3, d4] => { results := [.lit (.bool true)], args := [d1, d2, d3, d4] }
  | _ => none }
def funevalCallsRow : OpenClaim := { program := "ytgokgcnalgpiiaa", sum := "7ae0f58e7799a7e6eec070ddf7092caff91dbae7ee74354f34a2426133f07c1f", func := "backstep/backsteplaw37.FunevalCalls", spec := "funevalCalls", inPlace := ["maps.clone"], unfollowed := true, recurses := true, loops := true, apart := false }
def FunevalCallsSaid : Prop := funevalCallsRow.holds Try.pinned (OpenSpec.ofChange funevalCallsSpec)

/-- ITS FALSE NEIGHBOUR: 'it returns false'. Refute it at one input. -/
def funevalCallsWrong : ChangeSpec := { name := "funevalCalls", fn := fun _ => fun
  | [d1, d2, d3, d4] => { results := [.lit (.bool false)], args := [d1, d2, d3, d4] }
  | _ => none }
def FunevalCallsWrongFalsely : Prop := funevalCallsRow.holds Try.pinned (OpenSpec.ofChange funevalCallsWrong)

/-- 'backsteplaw37.FunevalSubtrees': WHATEVER THE INPUT: true; the input reads as it did. -/
def funevalSubtreesSpec : ChangeSpec := { name := "funevalSubtrees", fn := fun _ => fun
  | [d1, d2, d3] => { results := [.lit (.bool true)], args := [d1, d2, d3] }
  | _ => none }
def funevalSubtreesRow : OpenClaim := { program := "ytgokgcnalgpiiaa", sum := "7ae0f58e7799a7e6eec070ddf7092caff91dbae7ee74354f34a2426133f07c1f", func := "backstep/backsteplaw37.FunevalSubtrees", spec := "funevalSubtrees", inPlace := ["maps.clone"], unfollowed := true, recurses := true, loops := true, apart := false }
def FunevalSubtreesSaid : Prop := funevalSubtreesRow.holds Try.pinned (OpenSpec.ofChange funevalSubtreesSpec)

/-- ITS FALSE NEIGHBOUR: 'it returns false'. Refute it at one input. -/
def funevalSubtreesWrong : ChangeSpec := { name := "funevalSubtrees", fn := fun _ => fun
  | [d1, d2, d3] => { results := [.lit (.bool false)], args := [d1, d2, d3] }
  | _ => none }
def FunevalSubtreesWrongFalsely : Prop := funevalSubtreesRow.holds Try.pinned (OpenSpec.ofChange funevalSubtreesWrong)

/-- 'backsteplaw37.FunevalFuel': WHATEVER THE INPUT: true; the input reads as it did. -/
def funevalFuelSpec : ChangeSpec := { name := "funevalFuel", fn := fun _ => fun
  | [d1, d2, d3, d4, d5] => { results := [.lit (.bool true)], args := [d1, d2, d3, d4, d5] }
  | _ => none }
def funevalFuelRow : OpenClaim := { program := "ytgokgcnalgpiiaa", sum := "7ae0f58e7799a7e6eec070ddf7092caff91dbae7ee74354f34a2426133f07c1f", func := "backstep/backsteplaw37.FunevalFuel", spec := "funevalFuel", inPlace := ["maps.clone"], unfollowed := true, recurses := true, loops := true, apart := false }
def FunevalFuelSaid : Prop := funevalFuelRow.holds Try.pinned (OpenSpec.ofChange funevalFuelSpec)

/-- ITS FALSE NEIGHBOUR: 'it returns false'. Refute it at one input. -/
def funevalFuelWrong : ChangeSpec := { name := "funevalFuel", fn := fun _ => fun
  | [d1, d2, d3, d4, d5] => { results := [.lit (.bool false)], args := [d1, d2, d3, d4, d5] }
  | _ => none }
def FunevalFuelWrongFalsely : Prop := funevalFuelRow.holds Try.pinned (OpenSpec.ofChange funevalFuelWrong)

/-- 'backsteplaw37.FunevalOrder': WHATEVER THE INPUT: true; the input reads as it did. -/
def funevalOrderSpec : ChangeSpec := { name := "funevalOrder", fn := fun _ => fun
  | [d1, d2, d3] => { results := [.lit (.bool true)], args := [d1, d2, d3] }
  | _ => none }
def funevalOrderRow : OpenClaim := { program := "ytgokgcnalgpiiaa", sum := "7ae0f58e7799a7e6eec070ddf7092caff91dbae7ee74354f34a2426133f07c1f", func := "backstep/backsteplaw37.FunevalOrder", spec := "funevalOrder", inPlace := ["maps.clone"], unfollowed := true, recurses := true, loops := true, apart := false }
def FunevalOrderSaid : Prop := funevalOrderRow.holds Try.pinned (OpenSpec.ofChange funevalOrderSpec)

/-- ITS FALSE NEIGHBOUR: 'it returns false'. Refute it at one input. -/
def funevalOrderWrong : ChangeSpec := { name := "funevalOrder", fn := fun _ => fun
  | [d1, d2, d3] => { results := [.lit (.bool false)], args := [d1, d2, d3] }
  | _ => none }
def FunevalOrderWrongFalsely : Prop := funevalOrderRow.holds Try.pinned (OpenSpec.ofChange funevalOrderWrong)

/-- 'backsteplaw37.FunevalUnfolds': WHATEVER THE INPUT: true; the input reads as it did. -/
def funevalUnfoldsSpec : ChangeSpec := { name := "funevalUnfolds", fn := fun _ => fun
  | [d1, d2, d3] => { results := [.lit (.bool true)], args := [d1, d2, d3] }
  | _ => none }
def funevalUnfoldsRow : OpenClaim := { program := "ytgokgcnalgpiiaa", sum := "7ae0f58e7799a7e6eec070ddf7092caff91dbae7ee74354f34a2426133f07c1f", func := "backstep/backsteplaw37.FunevalUnfolds", spec := "funevalUnfolds", inPlace := ["maps.clone"], unfollowed := true, recurses := true, loops := true, apart := false }
def FunevalUnfoldsSaid : Prop := funevalUnfoldsRow.holds Try.pinned (OpenSpec.ofChange funevalUnfoldsSpec)

/-- ITS FALSE NEIGHBOUR: 'it returns false'. Refute it at one input. -/
def funevalUnfoldsWrong : ChangeSpec := { name := "funevalUnfolds", fn := fun _ => fun
  | [d1, d2, d3] => { results := [.lit (.bool false)], args := [d1, d2, d3] }
  | _ => none }
def FunevalUnfoldsWrongFalsely : Prop := funevalUnfoldsRow.holds Try.pinned (OpenSpec.ofChange funevalUnfoldsWrong)

/-- 'backsteplaw37.FunevalArgs': WHATEVER THE INPUT: true; the input reads as it did. -/
def funevalArgsSpec : ChangeSpec := { name := "funevalArgs", fn := fun _ => fun
  | [d1, d2, d3, d4] => { results := [.lit (.bool true)], args := [d1, d2, d3, d4] }
  | _ => none }
def funevalArgsRow : OpenClaim := { program := "ytgokgcnalgpiiaa", sum := "7ae0f58e7799a7e6eec070ddf7092caff91dbae7ee74354f34a2426133f07c1f", func := "backstep/backsteplaw37.FunevalArgs", spec := "funevalArgs", inPlace := ["maps.clone"], unfollowed := true, recurses := true, loops := true, apart := false }
def FunevalArgsSaid : Prop := funevalArgsRow.holds Try.pinned (OpenSpec.ofChange funevalArgsSpec)

/-- ITS FALSE NEIGHBOUR: 'it returns false'. Refute it at one input. -/
def funevalArgsWrong : ChangeSpec := { name := "funevalArgs", fn := fun _ => fun
  | [d1, d2, d3, d4] => { results := [.lit (.bool false)], args := [d1, d2, d3, d4] }
  | _ => none }
def FunevalArgsWrongFalsely : Prop := funevalArgsRow.holds Try.pinned (OpenSpec.ofChange funevalArgsWrong)

/- THE SECOND FORM. 'bulk': how many values and letters a reading holds, each counted each time it is reached (what is shared counts as often as it is met; a slice's spare places count too). A statement '..UptoSaid' is the law's where the arguments, and the package variables that the reading takes, are together of bulk at most 1048576: NARROWER than '..Said'. Prove '..Said' where nothing that the law and all that it calls make is longer than what came in: it says more and counts as full. Else prove '..UptoSaid'. A law counts once. -/
mutual
def uptoBulk {H : Type} : DataW H → Nat
  | .lit (.string bytes) => bytes.length + 1
  | .lit _ => 1
  | .nil => 1
  | .ptr d => uptoBulk d + 1
  | .slice elems spare => uptoBulkAll elems + uptoBulkAll spare + 1
  | .agg parts => uptoBulkAll parts + 1
  | .iface _ d => uptoBulk d + 1
  | .map entries => uptoBulkEntries entries + 1
  | .held _ => 1
def uptoBulkAll {H : Type} : List (DataW H) → Nat
  | [] => 0
  | d :: r => uptoBulk d + uptoBulkAll r
def uptoBulkEntries {H : Type} : List (Lit × DataW H) → Nat
  | [] => 0
  | x :: r => uptoBulkEntry x + uptoBulkEntries r
def uptoBulkEntry {H : Type} : Lit × DataW H → Nat
  | (.string bytes, d) => bytes.length + uptoBulk d + 1
  | (_, d) => uptoBulk d + 1
 end
def uptoSmall : (H : Type) → List (DataW H) → Bool := fun _ ds => decide (uptoBulkAll ds ≤ 1048576)
def OpenSpec.upto (s : _root_.Go.ChangeSpec) : _root_.Go.OpenSpec := { _root_.Go.OpenSpec.ofChange s with cond := some uptoSmall }

/-- 'backsteplaw37.FunevalLeast', WHERE WHAT IT READS IS OF BULK AT MOST 1048576: true; the input reads as it did. -/
def funevalLeastUptoRow : OpenClaim := { program := "ytgokgcnalgpiiaa", sum := "7ae0f58e7799a7e6eec070ddf7092caff91dbae7ee74354f34a2426133f07c1f", func := "backstep/backsteplaw37.FunevalLeast", spec := "funevalLeast", inPlace := ["maps.clone"], unfollowed := true, recurses := true, loops := true, apart := false, narrowed := true }
def FunevalLeastUptoSaid : Prop := funevalLeastUptoRow.holds Try.pinned (OpenSpec.upto funevalLeastSpec)

/-- 'backsteplaw37.FunevalCalls', WHERE WHAT IT READS IS OF BULK AT MOST 1048576: true; the input reads as it did. -/
def funevalCallsUptoRow : OpenClaim := { program := "ytgokgcnalgpiiaa", sum := "7ae0f58e7799a7e6eec070ddf7092caff91dbae7ee74354f34a2426133f07c1f", func := "backstep/backsteplaw37.FunevalCalls", spec := "funevalCalls", inPlace := ["maps.clone"], unfollowed := true, recurses := true, loops := true, apart := false, narrowed := true }
def FunevalCallsUptoSaid : Prop := funevalCallsUptoRow.holds Try.pinned (OpenSpec.upto funevalCallsSpec)

/-- 'backsteplaw37.FunevalSubtrees', WHERE WHAT IT READS IS OF BULK AT MOST 1048576: true; the input reads as it did. -/
def funevalSubtreesUptoRow : OpenClaim := { program := "ytgokgcnalgpiiaa", sum := "7ae0f58e7799a7e6eec070ddf7092caff91dbae7ee74354f34a2426133f07c1f", func := "backstep/backsteplaw37.FunevalSubtrees", spec := "funevalSubtrees", inPlace := ["maps.clone"], unfollowed := true, recurses := true, loops := true, apart := false, narrowed := true }
def FunevalSubtreesUptoSaid : Prop := funevalSubtreesUptoRow.holds Try.pinned (OpenSpec.upto funevalSubtreesSpec)

/-- 'backsteplaw37.FunevalFuel', WHERE WHAT IT READS IS OF BULK AT MOST 1048576: true; the input reads as it did. -/
def funevalFuelUptoRow : OpenClaim := { program := "ytgokgcnalgpiiaa", sum := "7ae0f58e7799a7e6eec070ddf7092caff91dbae7ee74354f34a2426133f07c1f", func := "backstep/backsteplaw37.FunevalFuel", spec := "funevalFuel", inPlace := ["maps.clone"], unfollowed := true, recurses := true, loops := true, apart := false, narrowed := true }
def FunevalFuelUptoSaid : Prop := funevalFuelUptoRow.holds Try.pinned (OpenSpec.upto funevalFuelSpec)

/-- 'backsteplaw37.FunevalOrder', WHERE WHAT IT READS IS OF BULK AT MOST 1048576: true; the input reads as it did. -/
def funevalOrderUptoRow : OpenClaim := { program := "ytgokgcnalgpiiaa", sum := "7ae0f58e7799a7e6eec070ddf7092caff91dbae7ee74354f34a2426133f07c1f", func := "backstep/backsteplaw37.FunevalOrder", spec := "funevalOrder", inPlace := ["maps.clone"], unfollowed := true, recurses := true, loops := true, apart := false, narrowed := true }
def FunevalOrderUptoSaid : Prop := funevalOrderUptoRow.holds Try.pinned (OpenSpec.upto funevalOrderSpec)

/-- 'backsteplaw37.FunevalUnfolds', WHERE WHAT IT READS IS OF BULK AT MOST 1048576: true; the input reads as it did. -/
def funevalUnfoldsUptoRow : OpenClaim := { program := "ytgokgcnalgpiiaa", sum := "7ae0f58e7799a7e6eec070ddf7092caff91dbae7ee74354f34a2426133f07c1f", func := "backstep/backsteplaw37.FunevalUnfolds", spec := "funevalUnfolds", inPlace := ["maps.clone"], unfollowed := true, recurses := true, loops := true, apart := false, narrowed := true }
def FunevalUnfoldsUptoSaid : Prop := funevalUnfoldsUptoRow.holds Try.pinned (OpenSpec.upto funevalUnfoldsSpec)

/-- 'backsteplaw37.FunevalArgs', WHERE WHAT IT READS IS OF BULK AT MOST 1048576: true; the input reads as it did. -/
def funevalArgsUptoRow : OpenClaim := { program := "ytgokgcnalgpiiaa", sum := "7ae0f58e7799a7e6eec070ddf7092caff91dbae7ee74354f34a2426133f07c1f", func := "backstep/backsteplaw37.FunevalArgs", spec := "funevalArgs", inPlace := ["maps.clone"], unfollowed := true, recurses := true, loops := true, apart := false, narrowed := true }
def FunevalArgsUptoSaid : Prop := funevalArgsUptoRow.holds Try.pinned (OpenSpec.upto funevalArgsSpec)

end Rows
end Go.Proofs.Ytgokgcnalgpiiaa

/-
  NARROWER THAN 'FOR EVERY INPUT', by the rows' own cells (each row's printed sentence says how): AnfNormalizes: loops, laid · AnfValid: loops, laid · AnfFuel: loops, laid · AnfOrder: loops, laid · AnfOnce: loops, laid · AnfAgrees: loops, laid.
  DERIVED. THE GIVEN ROWS OF THIS SEAT. 6 by the template 'for every input the law returns true; each argument reads behind the call as it read before'; 0 by the template 'total and deterministic' (their statements: YtcoeakdpcigogaaDoorTotals.lean).
  GIVEN WITH THE SEED: the statements are not yours to turn. If you find one false, say at which input.
  Laid BY PROGRAM, IN A SANDBOX (cutbox-rows.mjs): the forced cells as the released guide's own fill.sh prints them over the translation 4da8b1bc912c6f49… (all of the seat's roots in one cut). By AI agents, Wed Nov 11 2026. No macro, syntax, notation, axiom, sorry.
-/
import Derived.Test.YtcoeakdpcigogaaDoorChecked
import GoSem.Claim
import GoSem.ClaimJoined
import GoSem.ClaimMapViews
import Derived.JoinedTies
import Derived.KernelRfl
namespace Go.Proofs.YtcoeakdpcigogaaDoor
/- THE CELL 'sum', in the pinned program and in every row, IS THE sha256 OF THE DUMP (.gsa) THAT YtcoeakdpcigogaaDoorProg.lean LOADS. Nothing in Lean hashes anything: it is a label: what it is worth is what the hold of that sum in a sandbox is worth. -/
noncomputable def Tryd.pinned : Pinned := { name := "ytcoeakdpcigogaadoor", sum := "4da8b1bc912c6f498afa6ca4bb6599601e9f73df8ab15bc26b64a04a91879cef", checked := Tryd.checked }
namespace Rows
def none {H : Type} : Left H := { results := [], args := [] }

/- WHAT THE LISTED PACKAGE-LEVEL VARIABLES READ AS WHEN THE CALL BEGINS. Each datum BY PROGRAM (the guide's laid-datum.mjs) off the statement by which the dump's own 'gosem.cut.vars' lays the variable. In a bare row this is a premise. The card (YtcoeakdpcigogaaDoorCards.lean) ties it to the program's text. -/
def laid_math_bits_deBruijn32tab {H : Type} : DataW H := .agg [.lit (.int .u8 0), .lit (.int .u8 1), .lit (.int .u8 28), .lit (.int .u8 2), .lit (.int .u8 29), .lit (.int .u8 14), .lit (.int .u8 24), .lit (.int .u8 3), .lit (.int .u8 30), .lit (.int .u8 22), .lit (.int .u8 20), .lit (.int .u8 15), .lit (.int .u8 25), .lit (.int .u8 17), .lit (.int .u8 4), .lit (.int .u8 8), .lit (.int .u8 31), .lit (.int .u8 27), .lit (.int .u8 13), .lit (.int .u8 23), .lit (.int .u8 21), .lit (.int .u8 19), .lit (.int .u8 16), .lit (.int .u8 7), .lit (.int .u8 26), .lit (.int .u8 12), .lit (.int .u8 18), .lit (.int .u8 6), .lit (.int .u8 11), .lit (.int .u8 5), .lit (.int .u8 10), .lit (.int .u8 9)]
def laid_math_bits_deBruijn64tab {H : Type} : DataW H := .agg [.lit (.int .u8 0), .lit (.int .u8 1), .lit (.int .u8 56), .lit (.int .u8 2), .lit (.int .u8 57), .lit (.int .u8 49), .lit (.int .u8 28), .lit (.int .u8 3), .lit (.int .u8 61), .lit (.int .u8 58), .lit (.int .u8 42), .lit (.int .u8 50), .lit (.int .u8 38), .lit (.int .u8 29), .lit (.int .u8 17), .lit (.int .u8 4), .lit (.int .u8 62), .lit (.int .u8 47), .lit (.int .u8 59), .lit (.int .u8 36), .lit (.int .u8 45), .lit (.int .u8 43), .lit (.int .u8 51), .lit (.int .u8 22), .lit (.int .u8 53), .lit (.int .u8 39), .lit (.int .u8 33), .lit (.int .u8 30), .lit (.int .u8 24), .lit (.int .u8 18), .lit (.int .u8 12), .lit (.int .u8 5), .lit (.int .u8 63), .lit (.int .u8 55), .lit (.int .u8 48), .lit (.int .u8 27), .lit (.int .u8 60), .lit (.int .u8 41), .lit (.int .u8 37), .lit (.int .u8 16), .lit (.int .u8 46), .lit (.int .u8 35), .lit (.int .u8 44), .lit (.int .u8 21), .lit (.int .u8 52), .lit (.int .u8 32), .lit (.int .u8 23), .lit (.int .u8 11), .lit (.int .u8 54), .lit (.int .u8 26), .lit (.int .u8 40), .lit (.int .u8 15), .lit (.int .u8 34), .lit (.int .u8 20), .lit (.int .u8 31), .lit (.int .u8 10), .lit (.int .u8 25), .lit (.int .u8 14), .lit (.int .u8 19), .lit (.int .u8 9), .lit (.int .u8 13), .lit (.int .u8 8), .lit (.int .u8 7), .lit (.int .u8 6)]
def laid_internal_strconv_uint64pow10 {H : Type} : DataW H := .agg [.lit (.int .u64 1), .lit (.int .u64 10), .lit (.int .u64 100), .lit (.int .u64 1000), .lit (.int .u64 10000), .lit (.int .u64 100000), .lit (.int .u64 1000000), .lit (.int .u64 10000000), .lit (.int .u64 100000000), .lit (.int .u64 1000000000), .lit (.int .u64 10000000000), .lit (.int .u64 100000000000), .lit (.int .u64 1000000000000), .lit (.int .u64 10000000000000), .lit (.int .u64 100000000000000), .lit (.int .u64 1000000000000000), .lit (.int .u64 10000000000000000), .lit (.int .u64 100000000000000000), .lit (.int .u64 1000000000000000000), .lit (.int .u64 10000000000000000000)]

/-- 'backsteplaw38.AnfNormalizes': WHATEVER THE INPUT: true; the input reads as it did. -/
def anfNormalizesSpec : ChangeSpec := { name := "anfNormalizes", fn := fun _ => fun
  | [d] => { results := [.lit (.bool true)], args := [d] }
  | _ => none }
def anfNormalizesRow : OpenClaim := { program := "ytcoeakdpcigogaadoor", sum := "4da8b1bc912c6f498afa6ca4bb6599601e9f73df8ab15bc26b64a04a91879cef", func := "backstep/backsteplaw38.AnfNormalizes", spec := "anfNormalizes", unfollowed := true, recurses := true, named := ["internal/strconv.uint64pow10", "math/bits.deBruijn32tab", "math/bits.deBruijn64tab"], loops := true, apart := false, laid := [("math/bits.deBruijn32tab", laid_math_bits_deBruijn32tab), ("math/bits.deBruijn64tab", laid_math_bits_deBruijn64tab), ("internal/strconv.uint64pow10", laid_internal_strconv_uint64pow10)] }
def AnfNormalizesSaid : Prop := anfNormalizesRow.holds Tryd.pinned (OpenSpec.ofChange anfNormalizesSpec)

/-- ITS FALSE NEIGHBOUR: 'it returns false'. Refute it at one input. -/
def anfNormalizesWrong : ChangeSpec := { name := "anfNormalizes", fn := fun _ => fun
  | [d] => { results := [.lit (.bool false)], args := [d] }
  | _ => none }
def AnfNormalizesWrongFalsely : Prop := anfNormalizesRow.holds Tryd.pinned (OpenSpec.ofChange anfNormalizesWrong)

/-- 'backsteplaw38.AnfValid': WHATEVER THE INPUT: true; the input reads as it did. -/
def anfValidSpec : ChangeSpec := { name := "anfValid", fn := fun _ => fun
  | [d] => { results := [.lit (.bool true)], args := [d] }
  | _ => none }
def anfValidRow : OpenClaim := { program := "ytcoeakdpcigogaadoor", sum := "4da8b1bc912c6f498afa6ca4bb6599601e9f73df8ab15bc26b64a04a91879cef", func := "backstep/backsteplaw38.AnfValid", spec := "anfValid", unfollowed := true, recurses := true, named := ["internal/strconv.uint64pow10", "math/bits.deBruijn32tab", "math/bits.deBruijn64tab"], loops := true, apart := false, laid := [("math/bits.deBruijn32tab", laid_math_bits_deBruijn32tab), ("math/bits.deBruijn64tab", laid_math_bits_deBruijn64tab), ("internal/strconv.uint64pow10", laid_internal_strconv_uint64pow10)] }
def AnfValidSaid : Prop := anfValidRow.holds Tryd.pinned (OpenSpec.ofChange anfValidSpec)

/-- ITS FALSE NEIGHBOUR: 'it returns false'. Refute it at one input. -/
def anfValidWrong : ChangeSpec := { name := "anfValid", fn := fun _ => fun
  | [d] => { results := [.lit (.bool false)], args := [d] }
  | _ => none }
def AnfValidWrongFalsely : Prop := anfValidRow.holds Tryd.pinned (OpenSpec.ofChange anfValidWrong)

/-- 'backsteplaw38.AnfFuel': WHATEVER THE INPUT: true; the input reads as it did. -/
def anfFuelSpec : ChangeSpec := { name := "anfFuel", fn := fun _ => fun
  | [d1, d2, d3, d4, d5] => { results := [.lit (.bool true)], args := [d1, d2, d3, d4, d5] }
  | _ => none }
def anfFuelRow : OpenClaim := { program := "ytcoeakdpcigogaadoor", sum := "4da8b1bc912c6f498afa6ca4bb6599601e9f73df8ab15bc26b64a04a91879cef", func := "backstep/backsteplaw38.AnfFuel", spec := "anfFuel", unfollowed := true, recurses := true, named := ["internal/strconv.uint64pow10", "math/bits.deBruijn32tab", "math/bits.deBruijn64tab"], loops := true, apart := false, laid := [("math/bits.deBruijn32tab", laid_math_bits_deBruijn32tab), ("math/bits.deBruijn64tab", laid_math_bits_deBruijn64tab), ("internal/strconv.uint64pow10", laid_internal_strconv_uint64pow10)] }
def AnfFuelSaid : Prop := anfFuelRow.holds Tryd.pinned (OpenSpec.ofChange anfFuelSpec)

/-- ITS FALSE NEIGHBOUR: 'it returns false'. Refute it at one input. -/
def anfFuelWrong : ChangeSpec := { name := "anfFuel", fn := fun _ => fun
  | [d1, d2, d3, d4, d5] => { results := [.lit (.bool false)], args := [d1, d2, d3, d4, d5] }
  | _ => none }
def AnfFuelWrongFalsely : Prop := anfFuelRow.holds Tryd.pinned (OpenSpec.ofChange anfFuelWrong)

/-- 'backsteplaw38.AnfOrder': WHATEVER THE INPUT: true; the input reads as it did. -/
def anfOrderSpec : ChangeSpec := { name := "anfOrder", fn := fun _ => fun
  | [d] => { results := [.lit (.bool true)], args := [d] }
  | _ => none }
def anfOrderRow : OpenClaim := { program := "ytcoeakdpcigogaadoor", sum := "4da8b1bc912c6f498afa6ca4bb6599601e9f73df8ab15bc26b64a04a91879cef", func := "backstep/backsteplaw38.AnfOrder", spec := "anfOrder", unfollowed := true, recurses := true, named := ["internal/strconv.uint64pow10", "math/bits.deBruijn32tab", "math/bits.deBruijn64tab"], loops := true, apart := false, laid := [("math/bits.deBruijn32tab", laid_math_bits_deBruijn32tab), ("math/bits.deBruijn64tab", laid_math_bits_deBruijn64tab), ("internal/strconv.uint64pow10", laid_internal_strconv_uint64pow10)] }
def AnfOrderSaid : Prop := anfOrderRow.holds Tryd.pinned (OpenSpec.ofChange anfOrderSpec)

/-- ITS FALSE NEIGHBOUR: 'it returns false'. Refute it at one input. -/
def anfOrderWrong : ChangeSpec := { name := "anfOrder", fn := fun _ => fun
  | [d] => { results := [.lit (.bool false)], args := [d] }
  | _ => none }
def AnfOrderWrongFalsely : Prop := anfOrderRow.holds Tryd.pinned (OpenSpec.ofChange anfOrderWrong)

/-- 'backsteplaw38.AnfOnce': WHATEVER THE INPUT: true; the input reads as it did. -/
def anfOnceSpec : ChangeSpec := { name := "anfOnce", fn := fun _ => fun
  | [d] => { results := [.lit (.bool true)], args := [d] }
  | _ => none }
def anfOnceRow : OpenClaim := { program := "ytcoeakdpcigogaadoor", sum := "4da8b1bc912c6f498afa6ca4bb6599601e9f73df8ab15bc26b64a04a91879cef", func := "backstep/backsteplaw38.AnfOnce", spec := "anfOnce", unfollowed := true, recurses := true, named := ["internal/strconv.uint64pow10", "math/bits.deBruijn32tab", "math/bits.deBruijn64tab"], loops := true, apart := false, laid := [("math/bits.deBruijn32tab", laid_math_bits_deBruijn32tab), ("math/bits.deBruijn64tab", laid_math_bits_deBruijn64tab), ("internal/strconv.uint64pow10", laid_internal_strconv_uint64pow10)] }
def AnfOnceSaid : Prop := anfOnceRow.holds Tryd.pinned (OpenSpec.ofChange anfOnceSpec)

/-- ITS FALSE NEIGHBOUR: 'it returns false'. Refute it at one input. -/
def anfOnceWrong : ChangeSpec := { name := "anfOnce", fn := fun _ => fun
  | [d] => { results := [.lit (.bool false)], args := [d] }
  | _ => none }
def AnfOnceWrongFalsely : Prop := anfOnceRow.holds Tryd.pinned (OpenSpec.ofChange anfOnceWrong)

/-- 'backsteplaw38.AnfAgrees': WHATEVER THE INPUT: true; the input reads as it did. -/
def anfAgreesSpec : ChangeSpec := { name := "anfAgrees", fn := fun _ => fun
  | [d1, d2, d3, d4] => { results := [.lit (.bool true)], args := [d1, d2, d3, d4] }
  | _ => none }
def anfAgreesRow : OpenClaim := { program := "ytcoeakdpcigogaadoor", sum := "4da8b1bc912c6f498afa6ca4bb6599601e9f73df8ab15bc26b64a04a91879cef", func := "backstep/backsteplaw38.AnfAgrees", spec := "anfAgrees", inPlace := ["maps.clone"], unfollowed := true, recurses := true, named := ["internal/strconv.uint64pow10", "math/bits.deBruijn32tab", "math/bits.deBruijn64tab"], loops := true, apart := false, laid := [("math/bits.deBruijn32tab", laid_math_bits_deBruijn32tab), ("math/bits.deBruijn64tab", laid_math_bits_deBruijn64tab), ("internal/strconv.uint64pow10", laid_internal_strconv_uint64pow10)] }
def AnfAgreesSaid : Prop := anfAgreesRow.holds Tryd.pinned (OpenSpec.ofChange anfAgreesSpec)

/-- ITS FALSE NEIGHBOUR: 'it returns false'. Refute it at one input. -/
def anfAgreesWrong : ChangeSpec := { name := "anfAgrees", fn := fun _ => fun
  | [d1, d2, d3, d4] => { results := [.lit (.bool false)], args := [d1, d2, d3, d4] }
  | _ => none }
def AnfAgreesWrongFalsely : Prop := anfAgreesRow.holds Tryd.pinned (OpenSpec.ofChange anfAgreesWrong)

/- THE SECOND FORM. 'bulk': how many values and letters a reading holds, each counted each time it is reached (what is shared counts as often as it is met; a slice's spare places count too). A statement '..UptoSaid' is the law's where the arguments, and the package variables that the reading takes, are together of bulk at most 1048576: NARROWER than '..Said'. Prove '..Said' where nothing that the law and all that it calls make is longer than what came in: it says more and counts as full. Else prove '..UptoSaid'. A law counts once. -/
mutual
def uptoBulk {H : Type} : DataW H → Nat
  | .lit (.string bytes) => bytes.length + 1
  | .lit _ => 1
  | .nil => 1
  | .ptr d => uptoBulk d + 1
  | .slice elems spare => uptoBulkAll elems + uptoBulkAll spare + 1
  | .agg parts => uptoBulkAll parts + 1
  | .iface _ d => uptoBulk d + 1
  | .map entries => uptoBulkEntries entries + 1
  | .held _ => 1
def uptoBulkAll {H : Type} : List (DataW H) → Nat
  | [] => 0
  | d :: r => uptoBulk d + uptoBulkAll r
def uptoBulkEntries {H : Type} : List (Lit × DataW H) → Nat
  | [] => 0
  | x :: r => uptoBulkEntry x + uptoBulkEntries r
def uptoBulkEntry {H : Type} : Lit × DataW H → Nat
  | (.string bytes, d) => bytes.length + uptoBulk d + 1
  | (_, d) => uptoBulk d + 1
 end
def uptoSmall : (H : Type) → List (DataW H) → Bool := fun _ ds => decide (uptoBulkAll ds ≤ 1048576)
def OpenSpec.upto (s : _root_.Go.ChangeSpec) : _root_.Go.OpenSpec := { _root_.Go.OpenSpec.ofChange s with cond := some uptoSmall }

/-- 'backsteplaw38.AnfNormalizes', WHERE WHAT IT READS IS OF BULK AT MOST 1048576: true; the input reads as it did. -/
def anfNormalizesUptoRow : OpenClaim := { program := "ytcoeakdpcigogaadoor", sum := "4da8b1bc912c6f498afa6ca4bb6599601e9f73df8ab15bc26b64a04a91879cef", func := "backstep/backsteplaw38.AnfNormalizes", spec := "anfNormalizes", unfollowed := true, recurses := true, named := ["internal/strconv.uint64pow10", "math/bits.deBruijn32tab", "math/bits.deBruijn64tab"], loops := true, apart := false, laid := [("math/bits.deBruijn32tab", laid_math_bits_deBruijn32tab), ("math/bits.deBruijn64tab", laid_math_bits_deBruijn64tab), ("internal/strconv.uint64pow10", laid_internal_strconv_uint64pow10)], narrowed := true }
def AnfNormalizesUptoSaid : Prop := anfNormalizesUptoRow.holds Tryd.pinned (OpenSpec.upto anfNormalizesSpec)

/-- 'backsteplaw38.AnfValid', WHERE WHAT IT READS IS OF BULK AT MOST 1048576: true; the input reads as it did. -/
def anfValidUptoRow : OpenClaim := { program := "ytcoeakdpcigogaadoor", sum := "4da8b1bc912c6f498afa6ca4bb6599601e9f73df8ab15bc26b64a04a91879cef", func := "backstep/backsteplaw38.AnfValid", spec := "anfValid", unfollowed := true, recurses := true, named := ["internal/strconv.uint64pow10", "math/bits.deBruijn32tab", "math/bits.deBruijn64tab"], loops := true, apart := false, laid := [("math/bits.deBruijn32tab", laid_math_bits_deBruijn32tab), ("math/bits.deBruijn64tab", laid_math_bits_deBruijn64tab), ("internal/strconv.uint64pow10", laid_internal_strconv_uint64pow10)], narrowed := true }
def AnfValidUptoSaid : Prop := anfValidUptoRow.holds Tryd.pinned (OpenSpec.upto anfValidSpec)

/-- 'backsteplaw38.AnfFuel', WHERE WHAT IT READS IS OF BULK AT MOST 1048576: true; the input reads as it did. -/
def anfFuelUptoRow : OpenClaim := { program := "ytcoeakdpcigogaadoor", sum := "4da8b1bc912c6f498afa6ca4bb6599601e9f73df8ab15bc26b64a04a91879cef", func := "backstep/backsteplaw38.AnfFuel", spec := "anfFuel", unfollowed := true, recurses := true, named := ["internal/strconv.uint64pow10", "math/bits.deBruijn32tab", "math/bits.deBruijn64tab"], loops := true, apart := false, laid := [("math/bits.deBruijn32tab", laid_math_bits_deBruijn32tab), ("math/bits.deBruijn64tab", laid_math_bits_deBruijn64tab), ("internal/strconv.uint64pow10", laid_internal_strconv_uint64pow10)], narrowed := true }
def AnfFuelUptoSaid : Prop := anfFuelUptoRow.holds Tryd.pinned (OpenSpec.upto anfFuelSpec)

/-- 'backsteplaw38.AnfOrder', WHERE WHAT IT READS IS OF BULK AT MOST 1048576: true; the input reads as it did. -/
def anfOrderUptoRow : OpenClaim := { program := "ytcoeakdpcigogaadoor", sum := "4da8b1bc912c6f498afa6ca4bb6599601e9f73df8ab15bc26b64a04a91879cef", func := "backstep/backsteplaw38.AnfOrder", spec := "anfOrder", unfollowed := true, recurses := true, named := ["internal/strconv.uint64pow10", "math/bits.deBruijn32tab", "math/bits.deBruijn64tab"], loops := true, apart := false, laid := [("math/bits.deBruijn32tab", laid_math_bits_deBruijn32tab), ("math/bits.deBruijn64tab", laid_math_bits_deBruijn64tab), ("internal/strconv.uint64pow10", laid_internal_strconv_uint64pow10)], narrowed := true }
def AnfOrderUptoSaid : Prop := anfOrderUptoRow.holds Tryd.pinned (OpenSpec.upto anfOrderSpec)

/-- 'backsteplaw38.AnfOnce', WHERE WHAT IT READS IS OF BULK AT MOST 1048576: true; the input reads as it did. -/
def anfOnceUptoRow : OpenClaim := { program := "ytcoeakdpcigogaadoor", sum := "4da8b1bc912c6f498afa6ca4bb6599601e9f73df8ab15bc26b64a04a91879cef", func := "backstep/backsteplaw38.AnfOnce", spec := "anfOnce", unfollowed := true, recurses := true, named := ["internal/strconv.uint64pow10", "math/bits.deBruijn32tab", "math/bits.deBruijn64tab"], loops := true, apart := false, laid := [("math/bits.deBruijn32tab", laid_math_bits_deBruijn32tab), ("math/bits.deBruijn64tab", laid_math_bits_deBruijn64tab), ("internal/strconv.uint64pow10", laid_internal_strconv_uint64pow10)], narrowed := true }
def AnfOnceUptoSaid : Prop := anfOnceUptoRow.holds Tryd.pinned (OpenSpec.upto anfOnceSpec)

/-- 'backsteplaw38.AnfAgrees', WHERE WHAT IT READS IS OF BULK AT MOST 1048576: true; the input reads as it did. -/
def anfAgreesUptoRow : OpenClaim := { program := "ytcoeakdpcigogaadoor", sum := "4da8b1bc912c6f498afa6ca4bb6599601e9f73df8ab15bc26b64a04a91879cef", func := "backstep/backsteplaw38.AnfAgrees", spec := "anfAgrees", inPlace := ["maps.clone"], unfollowed := true, recurses := true, named := ["internal/strconv.uint64pow10", "math/bits.deBruijn32tab", "math/bits.deBruijn64tab"], loops := true, apart := false, laid := [("math/bits.deBruijn32tab", laid_math_bits_deBruijn32tab), ("math/bits.deBruijn64tab", laid_math_bits_deBruijn64tab), ("internal/strconv.uint64pow10", laid_internal_strconv_uint64pow10)], narrowed := true }
def AnfAgreesUptoSaid : Prop := anfAgreesUptoRow.holds Tryd.pinned (OpenSpec.upto anfAgreesSpec)

end Rows
end Go.Proofs.YtcoeakdpcigogaaDoor

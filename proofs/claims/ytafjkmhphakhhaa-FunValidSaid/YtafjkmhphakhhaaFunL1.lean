/-
  The walk of the law FunValid.
-/
import Derived.Test.YtafjkmhphakhhaaFunAwake
import Derived.Test.YtafjkmhphakhhaaFunSmall
import Derived.Test.YtafjkmhphakhhaaFunRVal
namespace Go.Proofs.Ytafjkmhphakhhaa
open Go.ChangeShapes Go.WideShapes Go.ChangeAt Go.RowKit Go.Sort

set_option maxRecDepth 100000 in
set_option maxHeartbeats 1000000 in
theorem funValid_walk (lib : List Fn1) (A : Option Addr) (cap : Nat) (w : World) (hL : LibAt w A lib) (hF : LibFit lib) :
    Calls Try.prog 3 #[.slice A lib.length cap] w fun e w' => e = .returned (.bool true) ∧ Below w.heap.size w w' := by
  have HL := Lib.hid hL
  clear hL
  go_enter Try.func3, Try.ntmps3
  go_wp2_with fail
  refine (awake_any w).mono ?_
  rintro e w1 ⟨rfl, hb1⟩
  go_wp2_with fail
  refine (great_any lib A cap w1 (HL.out.mono hb1) hF).mono ?_
  rintro e w2 ⟨rfl, hb2⟩
  have q2 := Lib.hid (below_step hb1 hb1.size hb2)
  clear hb1 hb2
  cases hg : greatB lib with
  | true =>
    go_wp2_with fail
    go_ret
    exact ⟨rfl, q2.out⟩
  | false =>
  obtain ⟨h40, hP, hN, hS⟩ := great_no hg
  have HS := Lib.hid hS
  clear hS hg
  go_wp2_with fail
  refine (valid_any lib A cap w2 (HL.out.mono q2.out) hF hP hN).mono ?_
  rintro e w3 ⟨rfl, hb3⟩
  have q3 := Lib.hid (below_step q2.out q2.out.size hb3)
  clear hb3 q2
  go_wp2_with fail
  refine (rvalid_any lib A cap w3 (HL.out.mono q3.out) hF hN).mono ?_
  rintro e w4 ⟨rfl, hb4⟩
  have q4 := Lib.hid (below_step q3.out q3.out.size hb4)
  clear hb4 q3
  generalize (validR lib).1 = v1 at *
  generalize (validR lib).2 = v2 at *
  have t1 : (v1 == v1) = true := by simp
  have t2 : (v2 == v2) = true := by simp
  go_wp2_with fail
  go_ret
  exact ⟨rfl, q4.out⟩

end Go.Proofs.Ytafjkmhphakhhaa

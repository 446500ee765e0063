/-
  The calls of an expression (plain).
-/
import Derived.Test.YtgokgcnalgpiiaaFunTree
import Derived.Test.YtgokgcnalgpiiaaFunFind
namespace Go.Proofs.Ytgokgcnalgpiiaa

mutual
def callsT (lib : List Fn1) : Nd → List Int
  | .mk kind _ name kids => (if kind = 85 ∧ 0 ≤ findF lib name 0 then [findF lib name 0] else []) ++ callsTL lib kids
def callsTL (lib : List Fn1) : List Nd → List Int
  | [] => []
  | y :: r => callsT lib y ++ callsTL lib r
end
theorem callsT_eq (lib : List Fn1) (x : Nd) : callsT lib x = (if x.kind = 85 ∧ 0 ≤ findF lib x.name 0 then [findF lib x.name 0] else []) ++ callsTL lib x.kids := by cases x; rw [callsT]; rfl
theorem callsTL_append (lib : List Fn1) : ∀ l r : List Nd, callsTL lib (l ++ r) = callsTL lib l ++ callsTL lib r
  | [], r => by simp [callsTL]
  | x :: l, r => by rw [List.cons_append, callsTL, callsTL, callsTL_append lib l r, List.append_assoc]
theorem callsTL_step {lib : List Fn1} {l : List Nd} {k : Nat} (h : k < l.length) : callsTL lib (l.take (k + 1)) = callsTL lib (l.take k) ++ callsT lib l[k] := by
  rw [List.take_succ_eq_append_getElem h, callsTL_append, callsTL, callsTL, List.append_nil]
mutual
theorem callsT_le (lib : List Fn1) : ∀ x : Nd, (callsT lib x).length ≤ sizeT x
  | .mk k n s l => by
    rw [callsT, sizeT]
    have := callsTL_le lib l
    split <;> simp <;> omega
theorem callsTL_le (lib : List Fn1) : ∀ l : List Nd, (callsTL lib l).length ≤ sizeTL l
  | [] => by simp [callsTL]
  | x :: r => by
    rw [callsTL, sizeTL, List.length_append]
    have := callsT_le lib x
    have := callsTL_le lib r
    omega
end

end Go.Proofs.Ytgokgcnalgpiiaa

/-
  The form of one node: contracts of fun.form and of the reference's kids and node.
-/
import Derived.Test.YtgokgcnalgpiiaaFunName3
namespace Go.Proofs.Ytgokgcnalgpiiaa
open Go.ChangeShapes Go.WideShapes Go.ChangeAt Go.RowKit Go.Sort

/-- The node's fields, and the number of its children, are those of its kind. -/
def formB (kind : Nat) (num : Int) (name : ByteArray) (n : Nat) : Bool :=
  if kind = 80 then decide (0 ≤ num) && name.toList.isEmpty && ((n : Int) == 0)
  else if kind = 81 then num == 0 && ((n : Int) == 0)
  else if kind = 82 then decide (8 ≤ num) && decide (num ≤ 23) && name.toList.isEmpty && ((n : Int) == 2)
  else if kind = 84 then num == 0 && nameB name && ((n : Int) == 2)
  else if kind = 85 then num == 0
  else num == 0 && name.toList.isEmpty && (if kind = 86 then ((n : Int) == 0) else if kind = 88 ∨ kind = 89 ∨ kind = 90 then ((n : Int) == 1) else if kind = 87 then ((n : Int) == 2) else if kind = 83 then ((n : Int) == 3) else false)

theorem kind_cases (k : Nat) : k = 80 ∨ k = 81 ∨ k = 82 ∨ k = 83 ∨ k = 84 ∨ k = 85 ∨ k = 86 ∨ k = 87 ∨ k = 88 ∨ k = 89 ∨ k = 90 ∨ (k < 80 ∨ 90 < k) := by omega
theorem beqK {k n : Nat} (h : k ≠ n) : ((k : Int) == (n : Int)) = false := beq_eq_false_iff_ne.2 (by omega)

set_option maxRecDepth 100000 in
set_option maxHeartbeats 2000000 in
theorem form_any (kind : Nat) (num : Int) (name : ByteArray) (n : Nat) (A : Option Addr) (cap : Nat) (w : World) (hs : name.size ≤ 9223372036854775807) (_hl : n ≤ 9223372036854775807) :
    Calls Try.prog 56 #[.agg #[.int .u8 kind, .int .i64 num, .string name, .slice A n cap]] w fun e w' => e = .returned (.bool (formB kind num name n)) ∧ Below w.heap.size w w' := by
  rcases kind_cases kind with rfl | rfl | rfl | rfl | rfl | rfl | rfl | rfl | rfl | rfl | rfl | hk
  case inr.inr.inr.inr.inl =>
    have hbW := below_box w (Obj.cells #[.int .u8 (84 : Nat), .int .i64 num, .string name, .slice A n cap] 56)
    by_cases h0 : num = 0
    · have hN := Lib.hid (show formB 84 num name n = (nameB name && ((n : Int) == 2)) by simp [formB, h0])
      subst h0
      go_enter Try.func56, Try.ntmps56
      go_wp2_with fail
      generalize w.alloc _ = W at hbW ⊢
      refine (isName_any name _ hs).mono ?_
      rintro e w' ⟨rfl, hb'⟩
      cases hnm : nameB name
      all_goals
        rw [hnm] at hN
        go_wp2_with fail
        go_ret
        exact ⟨ret_bool (by rw [hN.out]; simp), below_step hbW hbW.size hb'⟩
    · have hN := Lib.hid (show formB 84 num name n = false by simp [formB, h0])
      have h0' : (num == 0) = false := beq_eq_false_iff_ne.2 h0
      clear h0
      go_enter Try.func56, Try.ntmps56
      go_wp2_with fail
      go_ret
      exact ⟨ret_bool hN.out.symm, hbW⟩
  case inr.inr.inr.inr.inr.inr.inr.inr.inr.inr.inr =>
    have k0 : ((kind : Int) == 80) = false := beqK (n := 80) (by omega)
    have k1 : ((kind : Int) == 81) = false := beqK (n := 81) (by omega)
    have k2 : ((kind : Int) == 82) = false := beqK (n := 82) (by omega)
    have k3 : ((kind : Int) == 83) = false := beqK (n := 83) (by omega)
    have k4 : ((kind : Int) == 84) = false := beqK (n := 84) (by omega)
    have k5 : ((kind : Int) == 85) = false := beqK (n := 85) (by omega)
    have k6 : ((kind : Int) == 86) = false := beqK (n := 86) (by omega)
    have k7 : ((kind : Int) == 87) = false := beqK (n := 87) (by omega)
    have k8 : ((kind : Int) == 88) = false := beqK (n := 88) (by omega)
    have k9 : ((kind : Int) == 89) = false := beqK (n := 89) (by omega)
    have k10 : ((kind : Int) == 90) = false := beqK (n := 90) (by omega)
    have hN := Lib.hid (show formB kind num name n = false by
      unfold formB
      rw [if_neg (by omega), if_neg (by omega), if_neg (by omega), if_neg (by omega), if_neg (by omega), if_neg (by omega), if_neg (by omega), if_neg (by omega), if_neg (by omega)]
      simp)
    have hbW := below_box w (Obj.cells #[.int .u8 kind, .int .i64 num, .string name, .slice A n cap] 56)
    clear hk
    go_enter Try.func56, Try.ntmps56
    go_wp2_with fail
    all_goals go_ret
    all_goals exact ⟨ret_bool hN.out.symm, below_box _ _⟩
  all_goals
    go_enter Try.func56, Try.ntmps56
    go_wp2_with fail
    all_goals go_ret
    all_goals refine ⟨ret_bool ?_, below_box _ _⟩
    all_goals first
      | (simp [formB, *]; done)
      | (simp_all [formB]; done)
      | grind [formB]

end Go.Proofs.Ytgokgcnalgpiiaa

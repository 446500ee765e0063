/-
  The form of one node: contracts of fun.form and of the reference's kids and node.
  The form of one node, as the reference tests it.
-/
import Derived.Test.YtoankdaddgjnlaaFunName
namespace Go.Proofs.Ytoankdaddgjnlaa
open Go.ChangeShapes Go.WideShapes Go.ChangeAt Go.RowKit Go.Sort

/-- The node's fields, and the number of its children, are those of its kind. -/
def formB (kind : Nat) (num : Int) (name : ByteArray) (n : Nat) : Bool :=
  if kind = 80 then decide (0 ≤ num) && name.toList.isEmpty && ((n : Int) == 0)
  else if kind = 81 then num == 0 && ((n : Int) == 0)
  else if kind = 82 then decide (8 ≤ num) && decide (num ≤ 23) && name.toList.isEmpty && ((n : Int) == 2)
  else if kind = 84 then num == 0 && nameB name && ((n : Int) == 2)
  else if kind = 85 then num == 0
  else num == 0 && name.toList.isEmpty && (if kind = 86 then ((n : Int) == 0) else if kind = 88 ∨ kind = 89 ∨ kind = 90 then ((n : Int) == 1) else if kind = 87 then ((n : Int) == 2) else if kind = 83 then ((n : Int) == 3) else false)

theorem kind_cases (k : Nat) : k = 80 ∨ k = 81 ∨ k = 82 ∨ k = 83 ∨ k = 84 ∨ k = 85 ∨ k = 86 ∨ k = 87 ∨ k = 88 ∨ k = 89 ∨ k = 90 ∨ (k < 80 ∨ 90 < k) := by omega
theorem beqK {k n : Nat} (h : k ≠ n) : ((k : Int) == (n : Int)) = false := beq_eq_false_iff_ne.2 (by omega)

set_option maxRecDepth 100000 in
set_option maxHeartbeats 2000000 in
theorem form_any (kind : Nat) (num : Int) (name : ByteArray) (n : Nat) (A : Option Addr) (cap : Nat) (w : World) (hs : name.size ≤ 9223372036854775807) (_hl : n ≤ 9223372036854775807) :
    Calls Try.prog 55 #[.agg #[.int .u8 kind, .int .i64 num, .string name, .slice A n cap]] w fun e w' => e = .returned (.bool (formB kind num name n)) ∧ Below w.heap.size w w' := by
  rcases kind_cases kind with rfl | rfl | rfl | rfl | rfl | rfl | rfl | rfl | rfl | rfl | rfl | hk
  case inr.inr.inr.inr.inl =>
    have hbW := below_box w (Obj.cells #[.int .u8 (84 : Nat), .int .i64 num, .string name, .slice A n cap] 41)
    by_cases h0 : num = 0
    · have hN := Lib.hid (show formB 84 num name n = (nameB name && ((n : Int) == 2)) by simp [formB, h0])
      subst h0
      go_enter Try.func55, Try.ntmps55
      go_wp2_with fail
      generalize w.alloc _ = W at hbW ⊢
      refine (isName_any name _ hs).mono ?_
      rintro e w' ⟨rfl, hb'⟩
      cases hnm : nameB name
      all_goals
        rw [hnm] at hN
        go_wp2_with fail
        go_ret
        exact ⟨ret_bool (by rw [hN.out]; simp), below_step hbW hbW.size hb'⟩
    · have hN := Lib.hid (show formB 84 num name n = false by simp [formB, h0])
      have h0' : (num == 0) = false := beq_eq_false_iff_ne.2 h0
      clear h0
      go_enter Try.func55, Try.ntmps55
      go_wp2_with fail
      go_ret
      exact ⟨ret_bool hN.out.symm, hbW⟩
  case inr.inr.inr.inr.inr.inr.inr.inr.inr.inr.inr =>
    have k0 : ((kind : Int) == 80) = false := beqK (n := 80) (by omega)
    have k1 : ((kind : Int) == 81) = false := beqK (n := 81) (by omega)
    have k2 : ((kind : Int) == 82) = false := beqK (n := 82) (by omega)
    have k3 : ((kind : Int) == 83) = false := beqK (n := 83) (by omega)
    have k4 : ((kind : Int) == 84) = false := beqK (n := 84) (by omega)
    have k5 : ((kind : Int) == 85) = false := beqK (n := 85) (by omega)
    have k6 : ((kind : Int) == 86) = false := beqK (n := 86) (by omega)
    have k7 : ((kind : Int) == 87) = false := beqK (n := 87) (by omega)
    have k8 : ((kind : Int) == 88) = false := beqK (n := 88) (by omega)
    have k9 : ((kind : Int) == 89) = false := beqK (n := 89) (by omega)
    have k10 : ((kind : Int) == 90) = false := beqK (n := 90) (by omega)
    have hN := Lib.hid (show formB kind num name n = false by
      unfold formB
      rw [if_neg (by omega), if_neg (by omega), if_neg (by omega), if_neg (by omega), if_neg (by omega), if_neg (by omega), if_neg (by omega), if_neg (by omega), if_neg (by omega)]
      simp)
    have hbW := below_box w (Obj.cells #[.int .u8 kind, .int .i64 num, .string name, .slice A n cap] 41)
    clear hk
    go_enter Try.func55, Try.ntmps55
    go_wp2_with fail
    all_goals go_ret
    all_goals exact ⟨ret_bool hN.out.symm, below_box _ _⟩
  all_goals
    go_enter Try.func55, Try.ntmps55
    go_wp2_with fail
    all_goals go_ret
    all_goals refine ⟨ret_bool ?_, below_box _ _⟩
    all_goals first
      | (simp [formB, *]; done)
      | (simp_all [formB]; done)
      | grind [formB]

end Go.Proofs.Ytoankdaddgjnlaa

namespace Go.Proofs.Ytoankdaddgjnlaa
open Go.ChangeShapes Go.WideShapes Go.ChangeAt Go.RowKit Go.Sort

def kidsN (kind : Nat) : Int :=
  if kind = 80 ∨ kind = 81 ∨ kind = 86 then 0 else if kind = 88 ∨ kind = 89 ∨ kind = 90 then 1 else if kind = 82 ∨ kind = 84 ∨ kind = 87 then 2 else if kind = 83 then 3 else if kind = 85 then -1 else -2

set_option maxRecDepth 100000 in
theorem rkids_any (kind : Nat) (w : World) :
    Calls Try.prog 61 #[.int .u8 kind] w fun e w' => e = .returned (.int .i64 (kidsN kind)) ∧ w' = w := by
  go_enter Try.func61, Try.ntmps61
  go_wp2
  all_goals go_ret
  all_goals refine ⟨ret_i64 ?_, rfl⟩
  all_goals simp only [beq_iff_eq, beq_eq_false_iff_ne, ne_eq] at *
  all_goals norm_cast at *
  all_goals simp [kidsN, *]

set_option maxRecDepth 100000 in
set_option maxHeartbeats 2000000 in
theorem rnode_any (kind : Nat) (num : Int) (name : ByteArray) (n : Nat) (A : Option Addr) (cap : Nat) (w : World) (hs : name.size ≤ 9223372036854775807) (_hl : n ≤ 9223372036854775807) :
    Calls Try.prog 49 #[.agg #[.int .u8 kind, .int .i64 num, .string name, .slice A n cap]] w fun e w' => e = .returned (.bool (formB kind num name n)) ∧ Below w.heap.size w w' := by
  have hbW := below_box w (Obj.cells #[.int .u8 kind, .int .i64 num, .string name, .slice A n cap] 41)
  rcases kind_cases kind with rfl | rfl | rfl | rfl | rfl | rfl | rfl | rfl | rfl | rfl | rfl | hk
  case inr.inr.inr.inr.inl =>
    by_cases h2 : n = 2
    · subst h2
      by_cases h0 : num = 0
      · have hN := Lib.hid (show formB 84 num name 2 = nameB name by simp [formB, h0])
        subst h0
        go_enter Try.func49, Try.ntmps49
        go_wp2_with (go_at_call 61; refine (rkids_any 84 _).mono ?_; rintro e w' ⟨rfl, rfl⟩; simp only [show kidsN 84 = 2 from rfl])
        generalize w.alloc _ = W at hbW ⊢
        refine (rname_any name _ hs).mono ?_
        rintro e w' ⟨rfl, hb'⟩
        go_wp2_with fail
        go_ret
        exact ⟨ret_bool hN.out.symm, below_step hbW hbW.size hb'⟩
      · have hN := Lib.hid (show formB 84 num name 2 = false by simp [formB, h0])
        have h0' : (num == 0) = false := beq_eq_false_iff_ne.2 h0
        clear h0
        go_enter Try.func49, Try.ntmps49
        go_wp2_with (go_at_call 61; refine (rkids_any 84 _).mono ?_; rintro e w' ⟨rfl, rfl⟩; simp only [show kidsN 84 = 2 from rfl])
        go_ret
        exact ⟨ret_bool hN.out.symm, hbW⟩
    · have hN := Lib.hid (show formB 84 num name n = false by
        have : ((n : Int) == 2) = false := beqK (n := 2) h2
        simp [formB, this])
      have h2' : ((n : Int) != 2) = true := by simp; omega
      clear h2
      go_enter Try.func49, Try.ntmps49
      go_wp2_with (go_at_call 61; refine (rkids_any 84 _).mono ?_; rintro e w' ⟨rfl, rfl⟩; simp only [show kidsN 84 = 2 from rfl])
      go_ret
      exact ⟨ret_bool hN.out.symm, hbW⟩
  case inr.inr.inr.inr.inr.inr.inr.inr.inr.inr.inr =>
    have hN := Lib.hid (show formB kind num name n = false by
      unfold formB
      rw [if_neg (by omega), if_neg (by omega), if_neg (by omega), if_neg (by omega), if_neg (by omega), if_neg (by omega), if_neg (by omega), if_neg (by omega), if_neg (by omega)]
      simp)
    have hK : kidsN kind = -2 := by
      unfold kidsN
      rw [if_neg (by omega), if_neg (by omega), if_neg (by omega), if_neg (by omega), if_neg (by omega)]
    have HK := Lib.hid hK
    clear hk hK
    go_enter Try.func49, Try.ntmps49
    go_wp2_with (go_at_call 61; refine (rkids_any kind _).mono ?_; rintro e w' ⟨rfl, rfl⟩; simp only [HK.out])
    go_ret
    exact ⟨ret_bool hN.out.symm, hbW⟩
  all_goals
    go_enter Try.func49, Try.ntmps49
    go_wp2_with (go_at_call 61; refine (rkids_any _ _).mono ?_; rintro e w' ⟨rfl, rfl⟩; simp only [show kidsN 80 = 0 from rfl, show kidsN 81 = 0 from rfl, show kidsN 82 = 2 from rfl, show kidsN 83 = 3 from rfl, show kidsN 85 = -1 from rfl, show kidsN 86 = 0 from rfl, show kidsN 87 = 2 from rfl, show kidsN 88 = 1 from rfl, show kidsN 89 = 1 from rfl, show kidsN 90 = 1 from rfl])
    all_goals go_ret
    all_goals refine ⟨ret_bool ?_, below_box _ _⟩
    all_goals first
      | (simp [formB, *]; done)
      | (simp_all [formB]; done)
      | grind [formB]

end Go.Proofs.Ytoankdaddgjnlaa

/-
  Contracts of the functions of package isa, over this seat's translation.
-/
import Derived.Test.YthakiaicnhkfjaaDoorChecked
import Derived.Test.YthakiaicnhkfjaaDoorIsaPlain
import Derived.ProofKit
import Derived.OpenShut
import Derived.Deep.QuietTactic
import Derived.BigQuiet
import Derived.Outline
namespace Go.Proofs.YthakiaicnhkfjaaDoor
open Go.ChangeShapes Go.WideShapes Go.ChangeAt Go.RowKit

theorem reg_any (x : Int) (w : World) :
    Calls Tryd.prog 37 #[.int .i64 x] w fun e w' => e = .returned (.bool (regB x)) ∧ w = w' := by
  go_enter Tryd.func37, Tryd.ntmps37
  go_wp2
  all_goals go_ret
  all_goals exact ⟨by simp [regB] <;> omega, rfl⟩
theorem num_any (x : Int) (w : World) :
    Calls Tryd.prog 39 #[.int .i64 x] w fun e w' => e = .returned (.bool (numB x)) ∧ w = w' := by
  go_enter Tryd.func39, Tryd.ntmps39
  go_wp2
  all_goals go_ret
  all_goals exact ⟨by simp [numB] <;> omega, rfl⟩
theorem idx_any (x : Int) (w : World) :
    Calls Tryd.prog 40 #[.int .i64 x] w fun e w' => e = .returned (.bool (idxB x)) ∧ w = w' := by
  go_enter Tryd.func40, Tryd.ntmps40
  go_wp2
  all_goals go_ret
  all_goals exact ⟨by simp [idxB] <;> omega, rfl⟩
theorem opr_any (x : Int) (w : World) :
    Calls Tryd.prog 38 #[.int .i64 x] w fun e w' => e = .returned (.bool (oprB x)) ∧ w = w' := by
  go_enter Tryd.func38, Tryd.ntmps38
  go_wp2
  all_goals go_ret
  all_goals exact ⟨by simp [oprB] <;> omega, rfl⟩

theorem ret_u8 {a b : Int} (h : a = b) : Ending.returned (.int .u8 a) = .returned (.int .u8 b) := by rw [h]

set_option maxRecDepth 100000 in
theorem invN_any (op : Nat) (_hx : op < 256) (w : World) :
    Calls Tryd.prog 41 #[.int .u8 op] w fun e w' => e = .returned (.int .u8 (invN op)) ∧ w = w' := by
  go_enter Tryd.func41, Tryd.ntmps41
  go_wp2
  all_goals go_ret
  all_goals refine ⟨ret_u8 ?_, rfl⟩
  all_goals simp only [beq_iff_eq, beq_eq_false_iff_ne, ne_eq] at *
  all_goals norm_cast at *
  all_goals simp [invN, *]

/-- Package isa's table lies in memory as its initialiser lays it. -/
def Tab (w : World) : Prop := ∀ i, i < 35 → w.cell? ⟨0, i * 2, none⟩ = some (.string ⟨(mnem i).toArray⟩) ∧ w.cell? ⟨0, i * 2 + 1, none⟩ = some (.int .i64 (opsN i))

theorem opsN_hi {op : Nat} (h : ¬ op < 35) : opsN op = 0 := by
  unfold opsN; rw [List.getD_eq_getElem?_getD, List.getElem?_eq_none (by simp; omega)]; rfl
theorem mnem_hi {op : Nat} (h : ¬ op < 35) : mnem op = [] := by
  unfold mnem; rw [List.getD_eq_getElem?_getD, List.getElem?_eq_none (by simp; omega)]; rfl

theorem ret_bool {a b : Bool} (h : a = b) : Ending.returned (.bool a) = .returned (.bool b) := by rw [h]

theorem isJump_any (op : Nat) (hx : op < 256) (w : World) :
    Calls Tryd.prog 22 #[.int .u8 op] w fun e w' => e = .returned (.bool (jmpB op)) ∧ w = w' := by
  go_enter Tryd.func22, Tryd.ntmps22
  go_wp2
  all_goals go_ret
  all_goals refine ⟨ret_bool ?_, rfl⟩
  all_goals simp only [beq_iff_eq, beq_eq_false_iff_ne, ne_eq] at *
  all_goals simp [jmpB]
  all_goals omega
theorem isLanding_any (op : Nat) (hx : op < 256) (w : World) :
    Calls Tryd.prog 23 #[.int .u8 op] w fun e w' => e = .returned (.bool (lndB op)) ∧ w = w' := by
  go_enter Tryd.func23, Tryd.ntmps23
  go_wp2
  all_goals go_ret
  all_goals refine ⟨ret_bool ?_, rfl⟩
  all_goals simp only [beq_iff_eq, beq_eq_false_iff_ne, ne_eq] at *
  all_goals simp [lndB]
  all_goals omega

/-- The target of an instruction, and whether it has one. -/
def tgt (op : Nat) (A B : Int) : Int := if tgtK op = 1 then A else if tgtK op = 2 then B else 0

set_option maxRecDepth 100000 in
theorem target_any (op : Nat) (_hx : op < 256) (A B C D : Int) (w : World) :
    Calls Tryd.prog 27 #[.agg #[.int .u8 op, .int .i64 A, .int .i64 B, .int .i64 C, .int .i64 D]] w fun e w' => e = .returned (.tuple #[.int .i64 (tgt op A B), .bool (tgtK op != 0)]) ∧ Below w.heap.size w w' := by
  go_enter Tryd.func27, Tryd.ntmps27
  go_wp2
  all_goals go_ret2
  all_goals refine ⟨?_, ?_⟩
  all_goals first
    | exact (Below.refl _ _).alloc (Nat.le_refl _) _
    | skip
  all_goals simp only [beq_iff_eq, beq_eq_false_iff_ne, ne_eq] at *
  all_goals norm_cast at *
  all_goals simp [tgt, tgtK, *]

set_option maxRecDepth 100000 in
theorem inverse_any (op : Nat) (hx : op < 256) (A B C D : Int) (w : World) :
    Calls Tryd.prog 26 #[.agg #[.int .u8 op, .int .i64 A, .int .i64 B, .int .i64 C, .int .i64 D]] w fun e w' => e = .returned (.agg #[.int .u8 (invN op), .int .i64 A, .int .i64 B, .int .i64 C, .int .i64 D]) ∧ Below w.heap.size w w' := by
  go_enter Tryd.func26, Tryd.ntmps26
  go_wp2_with (go_at_call 41; refine (invN_any _ hx _).mono ?_; rintro e w' ⟨rfl, rfl⟩)
  exact bodyPost_ret (v := .agg #[.int .u8 (invN op), .int .i64 A, .int .i64 B, .int .i64 C, .int .i64 D]) (by simp [results, Tryd.results26, go_sem]) rfl ⟨rfl, ((Below.refl _ _).alloc (Nat.le_refl _) _).alloc (by simp) _⟩

/-- The instruction's first operand, and its second, with another target. -/
def retA (op : Nat) (A to : Int) : Int := if tgtK op = 1 then to else A
def retB (op : Nat) (B to : Int) : Int := if tgtK op = 2 then to else B

theorem agg_eq {op : Nat} {A B C D A' B' : Int} (ha : A = A') (hb : B = B') : (Value.agg #[.int .u8 op, .int .i64 A, .int .i64 B, .int .i64 C, .int .i64 D]) = .agg #[.int .u8 op, .int .i64 A', .int .i64 B', .int .i64 C, .int .i64 D] := by rw [ha, hb]

set_option maxRecDepth 100000 in
theorem retarget_any (op : Nat) (_hx : op < 256) (A B C D to : Int) (w : World) :
    Calls Tryd.prog 28 #[.agg #[.int .u8 op, .int .i64 A, .int .i64 B, .int .i64 C, .int .i64 D], .int .i64 to] w fun e w' => e = .returned (.agg #[.int .u8 op, .int .i64 (retA op A to), .int .i64 (retB op B to), .int .i64 C, .int .i64 D]) ∧ Below w.heap.size w w' := by
  go_enter Tryd.func28, Tryd.ntmps28
  go_wp2
  all_goals refine bodyPost_ret (by simp [results, Tryd.results28, go_sem]; rfl) rfl ⟨?_, by repeat (first | exact Below.refl _ _ | refine Below.setCell ?_ (by simp) _ | refine Below.alloc ?_ (by simp) _)⟩
  all_goals simp only [beq_iff_eq, beq_eq_false_iff_ne, ne_eq] at *
  all_goals norm_cast at *
  all_goals simp [retA, retB, tgtK, *]

end Go.Proofs.YthakiaicnhkfjaaDoor

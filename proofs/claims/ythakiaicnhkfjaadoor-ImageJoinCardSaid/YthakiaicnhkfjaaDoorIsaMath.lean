/-
  The plain laws of layer 21.
-/
import Derived.Test.YthakiaicnhkfjaaDoorIsaValid
import Derived.Test.YthakiaicnhkfjaaDoorIsaRefV
namespace Go.Proofs.YthakiaicnhkfjaaDoor
open Go.ChangeShapes Go.WideShapes Go.ChangeAt Go.RowKit Go.Sort

theorem Tab.mono {w w' : World} (h : Tab w) (hb : Below w.heap.size w w') : Tab w' := by
  intro i hi
  obtain ⟨h1, h2⟩ := h i hi
  have l : 0 < w.heap.size := block_lt_of_cell h1
  exact ⟨by rw [hb.cell (p := ⟨0, i * 2, none⟩) l]; exact h1, by rw [hb.cell (p := ⟨0, i * 2 + 1, none⟩) l]; exact h2⟩
theorem below_box (w : World) (o : Obj) : Below w.heap.size w (w.alloc o) := (Below.refl _ _).alloc (Nat.le_refl _) _
theorem Tab.alloc {w : World} (h : Tab w) (o : Obj) : Tab (w.alloc o) := h.mono ((Below.refl _ _).alloc (Nat.le_refl _) _)

/-! ### The plain laws -/

theorem op_cases {op : Nat} (h : op < 35) : op = 0 ∨ op = 1 ∨ op = 2 ∨ op = 3 ∨ op = 4 ∨ op = 5 ∨ op = 6 ∨ op = 7 ∨ op = 8 ∨ op = 9 ∨ op = 10 ∨ op = 11 ∨ op = 12 ∨ op = 13 ∨ op = 14 ∨ op = 15 ∨ op = 16 ∨ op = 17 ∨ op = 18 ∨ op = 19 ∨ op = 20 ∨ op = 21 ∨ op = 22 ∨ op = 23 ∨ op = 24 ∨ op = 25 ∨ op = 26 ∨ op = 27 ∨ op = 28 ∨ op = 29 ∨ op = 30 ∨ op = 31 ∨ op = 32 ∨ op = 33 ∨ op = 34 := by omega

theorem tgtK_hi {op : Nat} (h : ¬ op < 35) : tgtK op = 0 := by
  unfold tgtK; rw [if_neg (by omega), if_neg (by omega)]
theorem invN_hi {op : Nat} (h : ¬ op < 35) : invN op = op := by
  unfold invN
  rw [if_neg (by omega), if_neg (by omega), if_neg (by omega), if_neg (by omega), if_neg (by omega), if_neg (by omega), if_neg (by omega), if_neg (by omega), if_neg (by omega), if_neg (by omega), if_neg (by omega), if_neg (by omega), if_neg (by omega), if_neg (by omega), if_neg (by omega), if_neg (by omega), if_neg (by omega), if_neg (by omega), if_neg (by omega), if_neg (by omega)]
theorem invN_lt {op : Nat} (h : op < 35) : invN op < 35 := by
  rcases op_cases h with rfl | rfl | rfl | rfl | rfl | rfl | rfl | rfl | rfl | rfl | rfl | rfl | rfl | rfl | rfl | rfl | rfl | rfl | rfl | rfl | rfl | rfl | rfl | rfl | rfl | rfl | rfl | rfl | rfl | rfl | rfl | rfl | rfl | rfl | rfl <;> decide
theorem invN_256 {op : Nat} (h : op < 256) : invN op < 256 := by
  by_cases h35 : op < 35
  · have := invN_lt h35; omega
  · rw [invN_hi h35]; exact h
theorem invN_invN (op : Nat) : invN (invN op) = op := by
  by_cases h35 : op < 35
  · rcases op_cases h35 with rfl | rfl | rfl | rfl | rfl | rfl | rfl | rfl | rfl | rfl | rfl | rfl | rfl | rfl | rfl | rfl | rfl | rfl | rfl | rfl | rfl | rfl | rfl | rfl | rfl | rfl | rfl | rfl | rfl | rfl | rfl | rfl | rfl | rfl | rfl <;> rfl
  · rw [invN_hi h35, invN_hi h35]
theorem opsN_invN (op : Nat) : opsN (invN op) = opsN op := by
  by_cases h35 : op < 35
  · rcases op_cases h35 with rfl | rfl | rfl | rfl | rfl | rfl | rfl | rfl | rfl | rfl | rfl | rfl | rfl | rfl | rfl | rfl | rfl | rfl | rfl | rfl | rfl | rfl | rfl | rfl | rfl | rfl | rfl | rfl | rfl | rfl | rfl | rfl | rfl | rfl | rfl <;> rfl
  · rw [invN_hi h35]
theorem tgtK_invN (op : Nat) : tgtK (invN op) = tgtK op := by
  by_cases h35 : op < 35
  · rcases op_cases h35 with rfl | rfl | rfl | rfl | rfl | rfl | rfl | rfl | rfl | rfl | rfl | rfl | rfl | rfl | rfl | rfl | rfl | rfl | rfl | rfl | rfl | rfl | rfl | rfl | rfl | rfl | rfl | rfl | rfl | rfl | rfl | rfl | rfl | rfl | rfl <;> rfl
  · rw [invN_hi h35]
theorem jmp_invN (op : Nat) : jmpB (invN op) = lndB op := by
  by_cases h35 : op < 35
  · rcases op_cases h35 with rfl | rfl | rfl | rfl | rfl | rfl | rfl | rfl | rfl | rfl | rfl | rfl | rfl | rfl | rfl | rfl | rfl | rfl | rfl | rfl | rfl | rfl | rfl | rfl | rfl | rfl | rfl | rfl | rfl | rfl | rfl | rfl | rfl | rfl | rfl <;> rfl
  · rw [invN_hi h35, Bool.eq_iff_iff]; simp [jmpB, lndB]; omega
theorem lnd_invN (op : Nat) : lndB (invN op) = jmpB op := by
  by_cases h35 : op < 35
  · rcases op_cases h35 with rfl | rfl | rfl | rfl | rfl | rfl | rfl | rfl | rfl | rfl | rfl | rfl | rfl | rfl | rfl | rfl | rfl | rfl | rfl | rfl | rfl | rfl | rfl | rfl | rfl | rfl | rfl | rfl | rfl | rfl | rfl | rfl | rfl | rfl | rfl <;> rfl
  · rw [invN_hi h35, Bool.eq_iff_iff]; simp [jmpB, lndB]; omega
theorem formB_invN {op : Nat} (h35 : op < 35) (A B C D : Int) : formB (invN op) A B C D = formB op A B C D := by
  rcases op_cases h35 with rfl | rfl | rfl | rfl | rfl | rfl | rfl | rfl | rfl | rfl | rfl | rfl | rfl | rfl | rfl | rfl | rfl | rfl | rfl | rfl | rfl | rfl | rfl | rfl | rfl | rfl | rfl | rfl | rfl | rfl | rfl | rfl | rfl | rfl | rfl <;> rfl
theorem valid_invN (op : Nat) (A B C D : Int) : validB (invN op) A B C D = validB op A B C D := by
  by_cases h35 : op < 35
  · have := invN_lt h35
    simp only [validB, restB, opsN_invN, formB_invN h35, h35, this]
  · rw [invN_hi h35]
theorem tgt_invN (op : Nat) (A B : Int) : tgt (invN op) A B = tgt op A B := by unfold tgt; rw [tgtK_invN]
theorem valid_ref (op : Nat) (A B C D : Int) : validB op A B C D = refV op A B C D := by
  by_cases h35 : op < 35
  · rcases op_cases h35 with rfl | rfl | rfl | rfl | rfl | rfl | rfl | rfl | rfl | rfl | rfl | rfl | rfl | rfl | rfl | rfl | rfl | rfl | rfl | rfl | rfl | rfl | rfl | rfl | rfl | rfl | rfl | rfl | rfl | rfl | rfl | rfl | rfl | rfl | rfl <;> simp [validB, refV, restB, formB, okL, ok1, shapeL, opsN, distB, fitsB, Bool.and_assoc, Bool.and_comm, Bool.and_left_comm]
  · simp [validB, refV, h35]

end Go.Proofs.YthakiaicnhkfjaaDoor

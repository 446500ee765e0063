/-
  The laws' own examples of layer 21 hold: awake returns true. With it the plain laws.
-/
import Derived.Test.YtfcfmljndlmkbaaDoorIsaValid
import Derived.Test.YtfcfmljndlmkbaaDoorIsaRefT
namespace Go.Proofs.YtfcfmljndlmkbaaDoor
open Go.ChangeShapes Go.WideShapes Go.ChangeAt Go.RowKit Go.Sort

theorem Tab.mono {w w' : World} (h : Tab w) (hb : Below w.heap.size w w') : Tab w' := by
  intro i hi
  obtain ⟨h1, h2⟩ := h i hi
  have l : 0 < w.heap.size := block_lt_of_cell h1
  exact ⟨by rw [hb.cell (p := ⟨0, i * 2, none⟩) l]; exact h1, by rw [hb.cell (p := ⟨0, i * 2 + 1, none⟩) l]; exact h2⟩
theorem Tab.alloc {w : World} (h : Tab w) (o : Obj) : Tab (w.alloc o) := h.mono ((Below.refl _ _).alloc (Nat.le_refl _) _)

set_option maxRecDepth 100000 in
set_option maxHeartbeats 400000 in
theorem awake21_any (w : World) (hT : Tab w) :
    Calls Tryd.prog 11 #[] w fun e w' => e = .returned (.bool true) ∧ Below w.heap.size w w' := by
  have v1 : validB 9 1 3 2 8 = true := by decide
  have v2 : validB 9 1 1 2 8 = false := by decide
  have m1 : mnem 34 = [104, 97, 108, 116] := rfl
  have i1 : invN 1 = 2 := rfl
  have i2 : invN 23 = 26 := rfl
  go_enter Tryd.func11, Tryd.ntmps11
  go_wp2_with fail
  refine (inverse_any 1 (by decide) _ _ _ _ _).mono ?_
  rintro e w1 ⟨rfl, hb1⟩
  go_wp2_with fail
  refine (inverse_any 23 (by decide) _ _ _ _ _).mono ?_
  rintro e w2 ⟨rfl, hb2⟩
  go_wp2_with fail
  refine (valid_any 9 (by decide) _ _ _ _ _ ((hT.mono hb1).mono hb2)).mono ?_
  rintro e w3 ⟨rfl, hb3⟩
  go_wp2_with fail
  refine (valid_any 9 (by decide) _ _ _ _ _ (((hT.mono hb1).mono hb2).mono hb3)).mono ?_
  rintro e w4 ⟨rfl, hb4⟩
  go_wp2_with fail
  refine (mnemonic_any 34 (by decide) _ ((((hT.mono hb1).mono hb2).mono hb3).mono hb4)).mono ?_
  rintro e w5 ⟨rfl, rfl⟩
  go_wp2
  go_ret
  have q2 := below_step hb1 hb1.size hb2
  have q3 := below_step q2 q2.size hb3
  exact ⟨rfl, below_step q3 q3.size hb4⟩

/-! ### The plain laws -/

theorem op_cases {op : Nat} (h : op < 35) : op = 0 ∨ op = 1 ∨ op = 2 ∨ op = 3 ∨ op = 4 ∨ op = 5 ∨ op = 6 ∨ op = 7 ∨ op = 8 ∨ op = 9 ∨ op = 10 ∨ op = 11 ∨ op = 12 ∨ op = 13 ∨ op = 14 ∨ op = 15 ∨ op = 16 ∨ op = 17 ∨ op = 18 ∨ op = 19 ∨ op = 20 ∨ op = 21 ∨ op = 22 ∨ op = 23 ∨ op = 24 ∨ op = 25 ∨ op = 26 ∨ op = 27 ∨ op = 28 ∨ op = 29 ∨ op = 30 ∨ op = 31 ∨ op = 32 ∨ op = 33 ∨ op = 34 := by omega

theorem tgtK_hi {op : Nat} (h : ¬ op < 35) : tgtK op = 0 := by
  unfold tgtK; rw [if_neg (by omega), if_neg (by omega)]
theorem invN_hi {op : Nat} (h : ¬ op < 35) : invN op = op := by
  unfold invN
  rw [if_neg (by omega), if_neg (by omega), if_neg (by omega), if_neg (by omega), if_neg (by omega), if_neg (by omega), if_neg (by omega), if_neg (by omega), if_neg (by omega), if_neg (by omega), if_neg (by omega), if_neg (by omega), if_neg (by omega), if_neg (by omega), if_neg (by omega), if_neg (by omega), if_neg (by omega), if_neg (by omega), if_neg (by omega), if_neg (by omega)]
theorem invN_lt {op : Nat} (h : op < 35) : invN op < 35 := by
  rcases op_cases h with rfl | rfl | rfl | rfl | rfl | rfl | rfl | rfl | rfl | rfl | rfl | rfl | rfl | rfl | rfl | rfl | rfl | rfl | rfl | rfl | rfl | rfl | rfl | rfl | rfl | rfl | rfl | rfl | rfl | rfl | rfl | rfl | rfl | rfl | rfl <;> decide
theorem invN_256 {op : Nat} (h : op < 256) : invN op < 256 := by
  by_cases h35 : op < 35
  · have := invN_lt h35; omega
  · rw [invN_hi h35]; exact h
theorem invN_invN (op : Nat) : invN (invN op) = op := by
  by_cases h35 : op < 35
  · rcases op_cases h35 with rfl | rfl | rfl | rfl | rfl | rfl | rfl | rfl | rfl | rfl | rfl | rfl | rfl | rfl | rfl | rfl | rfl | rfl | rfl | rfl | rfl | rfl | rfl | rfl | rfl | rfl | rfl | rfl | rfl | rfl | rfl | rfl | rfl | rfl | rfl <;> rfl
  · rw [invN_hi h35, invN_hi h35]
theorem opsN_invN (op : Nat) : opsN (invN op) = opsN op := by
  by_cases h35 : op < 35
  · rcases op_cases h35 with rfl | rfl | rfl | rfl | rfl | rfl | rfl | rfl | rfl | rfl | rfl | rfl | rfl | rfl | rfl | rfl | rfl | rfl | rfl | rfl | rfl | rfl | rfl | rfl | rfl | rfl | rfl | rfl | rfl | rfl | rfl | rfl | rfl | rfl | rfl <;> rfl
  · rw [invN_hi h35]
theorem tgtK_invN (op : Nat) : tgtK (invN op) = tgtK op := by
  by_cases h35 : op < 35
  · rcases op_cases h35 with rfl | rfl | rfl | rfl | rfl | rfl | rfl | rfl | rfl | rfl | rfl | rfl | rfl | rfl | rfl | rfl | rfl | rfl | rfl | rfl | rfl | rfl | rfl | rfl | rfl | rfl | rfl | rfl | rfl | rfl | rfl | rfl | rfl | rfl | rfl <;> rfl
  · rw [invN_hi h35]
theorem jmp_invN (op : Nat) : jmpB (invN op) = lndB op := by
  by_cases h35 : op < 35
  · rcases op_cases h35 with rfl | rfl | rfl | rfl | rfl | rfl | rfl | rfl | rfl | rfl | rfl | rfl | rfl | rfl | rfl | rfl | rfl | rfl | rfl | rfl | rfl | rfl | rfl | rfl | rfl | rfl | rfl | rfl | rfl | rfl | rfl | rfl | rfl | rfl | rfl <;> rfl
  · rw [invN_hi h35, Bool.eq_iff_iff]; simp [jmpB, lndB]; omega
theorem lnd_invN (op : Nat) : lndB (invN op) = jmpB op := by
  by_cases h35 : op < 35
  · rcases op_cases h35 with rfl | rfl | rfl | rfl | rfl | rfl | rfl | rfl | rfl | rfl | rfl | rfl | rfl | rfl | rfl | rfl | rfl | rfl | rfl | rfl | rfl | rfl | rfl | rfl | rfl | rfl | rfl | rfl | rfl | rfl | rfl | rfl | rfl | rfl | rfl <;> rfl
  · rw [invN_hi h35, Bool.eq_iff_iff]; simp [jmpB, lndB]; omega
theorem formB_invN {op : Nat} (h35 : op < 35) (A B C D : Int) : formB (invN op) A B C D = formB op A B C D := by
  rcases op_cases h35 with rfl | rfl | rfl | rfl | rfl | rfl | rfl | rfl | rfl | rfl | rfl | rfl | rfl | rfl | rfl | rfl | rfl | rfl | rfl | rfl | rfl | rfl | rfl | rfl | rfl | rfl | rfl | rfl | rfl | rfl | rfl | rfl | rfl | rfl | rfl <;> rfl
theorem valid_invN (op : Nat) (A B C D : Int) : validB (invN op) A B C D = validB op A B C D := by
  by_cases h35 : op < 35
  · have := invN_lt h35
    simp only [validB, restB, opsN_invN, formB_invN h35, h35, this]
  · rw [invN_hi h35]
theorem tgt_invN (op : Nat) (A B : Int) : tgt (invN op) A B = tgt op A B := by unfold tgt; rw [tgtK_invN]
theorem valid_ref (op : Nat) (A B C D : Int) : validB op A B C D = refV op A B C D := by
  by_cases h35 : op < 35
  · rcases op_cases h35 with rfl | rfl | rfl | rfl | rfl | rfl | rfl | rfl | rfl | rfl | rfl | rfl | rfl | rfl | rfl | rfl | rfl | rfl | rfl | rfl | rfl | rfl | rfl | rfl | rfl | rfl | rfl | rfl | rfl | rfl | rfl | rfl | rfl | rfl | rfl <;> simp [validB, refV, restB, formB, okL, ok1, shapeL, opsN, distB, fitsB, Bool.and_assoc, Bool.and_comm, Bool.and_left_comm]
  · simp [validB, refV, h35]

end Go.Proofs.YtfcfmljndlmkbaaDoor

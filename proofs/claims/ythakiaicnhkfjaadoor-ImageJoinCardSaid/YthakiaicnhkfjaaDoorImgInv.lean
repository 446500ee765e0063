/-
  The inverse of an image: plain functions, and the contract of image.Invert.
-/
import Derived.Test.YthakiaicnhkfjaaDoorImgClone
namespace Go.Proofs.YthakiaicnhkfjaaDoor
open Go.ChangeShapes Go.WideShapes Go.ChangeAt Go.RowKit Go.Sort

/-- The target that is turned: of a call, the end of the procedure. -/
def newT (l : List Ins) (x : Ins) : Int := if invN x.op = 30 ∨ invN x.op = 31 then (atI l (tI x)).a else tI x
/-- The inverse of the instruction at i, in the inverse image. -/
def newX (l : List Ins) (i : Nat) : Ins :=
  if kI (atI l i) = true then ⟨invN (atI l i).op, retA (invN (atI l i).op) (atI l i).a (l.length - 1 - newT l (atI l i)), retB (invN (atI l i).op) (atI l i).b (l.length - 1 - newT l (atI l i)), (atI l i).c, (atI l i).d⟩
  else ⟨invN (atI l i).op, (atI l i).a, (atI l i).b, (atI l i).c, (atI l i).d⟩
def invL (l : List Ins) : List Ins := (List.range l.length).map fun j => newX l (l.length - 1 - j)

theorem firstF_zero {f : Nat → Int} : ∀ {r k : Nat}, (firstF f r k).2 = 0 → ∀ j, k ≤ j → j < k + r → f j = 0
  | 0, k, _, j, h1, h2 => by omega
  | r + 1, k, h, j, h1, h2 => by
    unfold firstF at h
    by_cases hk : f k = 0
    · rw [if_pos hk] at h
      by_cases e : j = k
      · rw [e]; exact hk
      · exact firstF_zero h j (by omega) (by omega)
    · rw [if_neg hk] at h; exact absurd h hk
theorem ok_good {l : List Ins} {M S : Int} (h : okImg l M S = true) : sizesB l.length M S = true ∧ ∀ i, i < l.length → pfault l i = 0 := by
  unfold okImg checkF at h
  by_cases hs : sizesB l.length M S = true
  · rw [if_pos hs] at h
    rw [beq_iff_eq] at h
    exact ⟨hs, fun i hi => firstF_zero h i (by omega) (by omega)⟩
  · rw [if_neg hs] at h; cases h
theorem good_valid {l : List Ins} {i : Nat} (h : pfault l i = 0) : vI (atI l i) = true := by
  unfold pfault at h
  by_cases hv : vI (atI l i) = false
  · rw [if_pos hv] at h; cases h
  · simpa using hv
theorem good_call {l : List Ins} {i : Nat} (h : pfault l i = 0) (hc : (atI l i).op = 30 ∨ (atI l i).op = 31) : ∃ e, ptn l (tI (atI l i)) = some e ∧ (atI l (tI (atI l i))).op = 32 := by
  have hv := good_valid h
  unfold pfault at h
  rw [if_neg (by rw [hv]; decide)] at h
  have hk : kI (atI l i) = true := by rw [kI_iff]; rcases hc with e | e <;> rw [e] <;> rfl
  rw [if_neg (by rw [hk]; decide), if_pos hc] at h
  by_cases hh : ptn l (tI (atI l i)) = none ∨ (atI l (tI (atI l i))).op ≠ 32
  · rw [if_pos hh] at h; cases h
  · cases hp : ptn l (tI (atI l i)) with
    | none => exact absurd (.inl hp) hh
    | some e => exact ⟨e, rfl, Decidable.byContradiction fun h' => hh (.inr h')⟩
theorem valid_tgt {x : Ins} (hv : vI x = true) (hk : kI x = true) : 0 ≤ tI x ∧ tI x < 65536 := by
  obtain ⟨op, a, b, c, d⟩ := x
  unfold vI validB at hv
  simp only [Bool.and_eq_true, decide_eq_true_eq] at hv
  obtain ⟨⟨h35, _⟩, hf⟩ := hv
  unfold kI at hk
  unfold tI tgt
  simp only at *
  rcases op_cases h35 with rfl | rfl | rfl | rfl | rfl | rfl | rfl | rfl | rfl | rfl | rfl | rfl | rfl | rfl | rfl | rfl | rfl | rfl | rfl | rfl | rfl | rfl | rfl | rfl | rfl | rfl | rfl | rfl | rfl | rfl | rfl | rfl | rfl | rfl | rfl <;> first
    | (simp [tgtK] at hk; done)
    | (simp [formB, idxB, regB] at hf; simp [tgtK]; omega)
theorem invN_call (op : Nat) : (invN op = 30 ∨ invN op = 31) ↔ (op = 30 ∨ op = 31) := by
  by_cases h35 : op < 35
  · rcases op_cases h35 with rfl | rfl | rfl | rfl | rfl | rfl | rfl | rfl | rfl | rfl | rfl | rfl | rfl | rfl | rfl | rfl | rfl | rfl | rfl | rfl | rfl | rfl | rfl | rfl | rfl | rfl | rfl | rfl | rfl | rfl | rfl | rfl | rfl | rfl | rfl <;> decide
  · rw [invN_hi h35]

end Go.Proofs.YthakiaicnhkfjaaDoor

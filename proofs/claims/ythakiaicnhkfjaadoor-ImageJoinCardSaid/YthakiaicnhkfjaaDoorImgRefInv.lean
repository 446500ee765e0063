/-
  The reference's Invert (layer 23) at valid images.
-/
import Derived.Test.YthakiaicnhkfjaaDoorImgL3
namespace Go.Proofs.YthakiaicnhkfjaaDoor
open Go.ChangeShapes Go.WideShapes Go.ChangeAt Go.RowKit Go.Sort

/-- What the reference makes of an instruction. -/
def rnew (l : List Ins) (x : Ins) : Ins :=
  if invN x.op = 30 ∨ invN x.op = 31 then ⟨invN x.op, (l.length : Int) - 1 - rptn l x.a, x.b, x.c, x.d⟩
  else if 0 ≤ rtarget ⟨invN x.op, x.a, x.b, x.c, x.d⟩ ∧ (invN x.op = 22 ∨ invN x.op = 25 ∨ invN x.op = 32 ∨ invN x.op = 33) then ⟨invN x.op, (l.length : Int) - 1 - x.a, x.b, x.c, x.d⟩
  else if 0 ≤ rtarget ⟨invN x.op, x.a, x.b, x.c, x.d⟩ then ⟨invN x.op, x.a, (l.length : Int) - 1 - x.b, x.c, x.d⟩
  else ⟨invN x.op, x.a, x.b, x.c, x.d⟩

theorem tgtK_1 {op : Nat} (h : op = 22 ∨ op = 25 ∨ op = 30 ∨ op = 31 ∨ op = 32 ∨ op = 33) : tgtK op = 1 := by unfold tgtK; rw [if_pos h]
theorem rnew_eq {l : List Ins} (h : Struct l) {i : Nat} (hi : i < l.length) : rnew l (atI l i) = newX l i := by
  have hv := h.v i hi
  unfold rnew newX
  by_cases hc : invN (atI l i).op = 30 ∨ invN (atI l i).op = 31
  · have hc' := (invN_call _).1 hc
    have hk : kI (atI l i) = true := by rw [kI_iff]; rcases hc' with e | e <;> rw [e] <;> rfl
    obtain ⟨e, he⟩ := h.call i hi hc'
    have hnt : newT l (atI l i) = e := by
      unfold newT
      rw [if_pos hc, tI_call hc']
      have ht := (ptn_spec.1 he.2).2.2.1
      rw [tI_st he.1] at ht
      exact ht.symm
    rw [if_pos hc, if_pos hk, hnt, rptn_eq, he.2]
    have hK : tgtK (invN (atI l i).op) = 1 := tgtK_1 (by omega)
    simp [retA, retB, hK]
  · rw [if_neg hc]
    by_cases hk : kI (atI l i) = true
    · have hnt : newT l (atI l i) = tI (atI l i) := by unfold newT; rw [if_neg hc]
      have hr := valid_tgt hv hk
      have hrt : rtarget ⟨invN (atI l i).op, (atI l i).a, (atI l i).b, (atI l i).c, (atI l i).d⟩ = tI (atI l i) := by
        rw [rtarget_k (by unfold kI; rw [tgtK_invN]; exact hk)]
        unfold tI; rw [tgt_invN]
      rw [hrt, if_pos hk, hnt]
      by_cases ho : invN (atI l i).op = 22 ∨ invN (atI l i).op = 25 ∨ invN (atI l i).op = 32 ∨ invN (atI l i).op = 33
      · have hK : tgtK (invN (atI l i).op) = 1 := tgtK_1 (by omega)
        have hK' : tgtK (atI l i).op = 1 := by rw [← tgtK_invN]; exact hK
        have hta : tI (atI l i) = (atI l i).a := by unfold tI tgt; rw [hK']; rfl
        rw [if_pos ⟨hr.1, ho⟩, hta]
        simp [retA, retB, hK]
      · have hK : tgtK (invN (atI l i).op) = 2 := by
          have h1 : tgtK (invN (atI l i).op) ≠ 0 := by rw [tgtK_invN]; exact kI_ne hk
          rcases tgtK_012 (invN (atI l i).op) with e | e | e
          · exact absurd e h1
          · exfalso
            unfold tgtK at e
            split at e
            · omega
            · split at e <;> cases e
          · exact e
        have hK' : tgtK (atI l i).op = 2 := by rw [← tgtK_invN]; exact hK
        have htb : tI (atI l i) = (atI l i).b := by unfold tI tgt; rw [hK']; rfl
        rw [if_neg (fun hh => ho hh.2), if_pos hr.1, htb]
        simp [retA, retB, hK]
    · have hrt : rtarget ⟨invN (atI l i).op, (atI l i).a, (atI l i).b, (atI l i).c, (atI l i).d⟩ = -1 :=
        rtarget_nk (by unfold kI; rw [tgtK_invN]; have : kI (atI l i) = false := by simpa using hk
                       exact this)
      rw [hrt, if_neg (by omega), if_neg (by omega), if_neg hk]

end Go.Proofs.YthakiaicnhkfjaaDoor

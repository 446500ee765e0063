/-
  What the limits of the laws say.
-/
import Derived.Test.YtafjkmhphakhhaaFunVT
namespace Go.Proofs.Ytafjkmhphakhhaa

mutual
theorem bigD_size : ∀ (x : Nd) (d : Nat), 0 ≤ bigD d x → bigD d x = sizeT x
  | .mk k n s l, 0, h => by simp [bigD] at h
  | .mk k n s l, d + 1, h => by
    rw [bigD] at h ⊢
    have := bigL_size l d 1 h
    rw [sizeT]
    show bigL (bigD d) l 1 = _
    have e : bigL (bigD d) l 1 = 1 + sizeTL l := this
    rw [e]; simp
theorem bigL_size : ∀ (l : List Nd) (d : Nat) (s : Int), 0 ≤ bigL (bigD d) l s → bigL (bigD d) l s = s + sizeTL l
  | [], d, s, h => by simp [bigL, sizeTL]
  | y :: r, d, s, h => by
    rw [bigL] at h ⊢
    by_cases hc : bigD d y < 0 ∨ 1000 < s
    · rw [if_pos hc] at h; omega
    · rw [if_neg hc] at h ⊢
      rw [bigL_size r d _ h, bigD_size y d (by omega), sizeTL]
      omega
end
theorem fgreat_no {f : Fn1} (h : fgreat f = false) : f.params.length ≤ 10 ∧ sizeT f.body ≤ 200 := by
  simp [fgreat] at h
  have := bigD_size f.body 100 (by omega)
  omega
theorem great_no {l : List Fn1} (h : greatB l = false) : l.length ≤ 40 ∧ FewParams l ∧ FewNodes l ∧ ∀ (k : Nat) (f : Fn1), l[k]? = some f → f.params.length ≤ 10 ∧ sizeT f.body ≤ 200 := by
  unfold greatB at h
  rw [Bool.or_eq_false_iff] at h
  have hf : ∀ (k : Nat) (f : Fn1), l[k]? = some f → f.params.length ≤ 10 ∧ sizeT f.body ≤ 200 := fun k f hk => by
    refine fgreat_no ?_
    have := List.any_eq_false.1 h.2 f (List.mem_of_getElem? hk)
    simpa using this
  refine ⟨by simpa using h.1, fun k f hk => by have := hf k f hk; omega, fun k f hk => by have := hf k f hk; omega, hf⟩

end Go.Proofs.Ytafjkmhphakhhaa

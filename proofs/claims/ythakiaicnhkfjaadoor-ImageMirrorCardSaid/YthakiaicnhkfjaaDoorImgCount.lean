/-
  Plain laws of layer 23: an image and its inverse have as many procedures.
-/
import Derived.Test.YthakiaicnhkfjaaDoorImgInvMath
import Derived.Test.YthakiaicnhkfjaaDoorImgL9
namespace Go.Proofs.YthakiaicnhkfjaaDoor

theorem length_le_of_subset : ∀ {A B : List Nat}, A.Nodup → (∀ x, x ∈ A → x ∈ B) → A.length ≤ B.length
  | [], B, _, _ => by simp
  | x :: A, B, hn, h => by
    have hx := h x (by simp)
    obtain ⟨h1, h2⟩ := List.nodup_cons.1 hn
    have := length_le_of_subset (A := A) (B := B.erase x) h2 (fun y hy => (List.mem_erase_of_ne (fun e => h1 (by rw [← e]; exact hy))).2 (h y (by simp [hy])))
    rw [List.length_erase_of_mem hx] at this
    have : 0 < B.length := List.length_pos_of_mem hx
    simp; omega
theorem nodup_map {f : Nat → Nat} : ∀ {A : List Nat}, A.Nodup → (∀ x y, x ∈ A → y ∈ A → f x = f y → x = y) → (A.map f).Nodup
  | [], _, _ => by simp
  | x :: A, hn, h => by
    obtain ⟨h1, h2⟩ := List.nodup_cons.1 hn
    rw [List.map_cons, List.nodup_cons]
    refine ⟨fun hm => ?_, nodup_map h2 fun a b ha hb => h a b (by simp [ha]) (by simp [hb])⟩
    obtain ⟨y, hy, e⟩ := List.mem_map.1 hm
    have := h y x (by simp [hy]) (by simp) e
    exact h1 (this ▸ hy)
theorem count_le {A B : List Nat} (hn : A.Nodup) (f : Nat → Nat) (hi : ∀ x y, x ∈ A → y ∈ A → f x = f y → x = y) (hm : ∀ x, x ∈ A → f x ∈ B) : A.length ≤ B.length := by
  have := length_le_of_subset (nodup_map hn hi) (B := B) (fun y hy => by
    obtain ⟨x, hx, rfl⟩ := List.mem_map.1 hy; exact hm x hx)
  simpa using this

/-- The places of the starts. -/
def starts (l : List Ins) : List Nat := (List.range l.length).filter fun (i : Nat) => (atI l (i : Int)).op == 32
theorem starts_nodup (l : List Ins) : (starts l).Nodup := List.nodup_range.sublist List.filter_sublist
theorem mem_starts {l : List Ins} {i : Nat} : i ∈ starts l ↔ i < l.length ∧ (atI l i).op = 32 := by
  simp [starts]
theorem list_eq_map (l : List Ins) : l = (List.range l.length).map fun (i : Nat) => atI l (i : Int) := by
  apply List.ext_getElem?
  intro j
  by_cases hj : j < l.length
  · simp [hj, atI]
  · rw [List.getElem?_eq_none (by omega), List.getElem?_eq_none (by simp; omega)]
theorem procs_count (l : List Ins) : (procsF l 0).length = (starts l).length := by
  rw [procsF_length]
  conv => lhs; rw [list_eq_map l]
  rw [List.filter_map, List.length_map]
  rfl

section
variable {l : List Ins} (h : Struct l) (hn : l.length ≤ 65536)
include h hn
theorem procs_inv : (procsF (invL l) 0).length = (procsF l 0).length := by
  rw [procs_count, procs_count]
  have key : ∀ {m : List Ins}, Struct m → m.length ≤ 65536 → (starts m).length ≤ (starts (invL m)).length := fun {m} hm hmn => by
    refine count_le (starts_nodup m) (fun i => m.length - 1 - ((ptn m i).getD 0).toNat) (fun x y hx hy e => ?_) (fun x hx => ?_)
    · obtain ⟨x1, x2⟩ := mem_starts.1 hx
      obtain ⟨y1, y2⟩ := mem_starts.1 hy
      obtain ⟨t, ht⟩ := hm.pr x x1 (by rw [x2]; rfl)
      obtain ⟨u, hu⟩ := hm.pr y y1 (by rw [y2]; rfl)
      rw [ht, hu] at e
      have r1 := (ptn_range ht).2
      have r2 := (ptn_range hu).2
      simp only [Option.getD_some] at e
      have : t = u := by omega
      subst this
      have s1 := (ptn_symm ht).1
      have s2 := (ptn_symm hu).1
      rw [s1] at s2
      have := Option.some.inj s2
      omega
    · obtain ⟨x1, x2⟩ := mem_starts.1 hx
      obtain ⟨t, ht⟩ := hm.pr x x1 (by rw [x2]; rfl)
      have r1 := (ptn_range ht).2
      have hp := proc_inv hm hmn (s := x) (e := t) ⟨x2, ht⟩
      refine mem_starts.2 ⟨by rw [invL_length, ht]; simp; omega, ?_⟩
      rw [ht]
      simp only [Option.getD_some]
      have e2 : ((m.length - 1 - t.toNat : Nat) : Int) = (m.length : Int) - 1 - t := by omega
      rw [e2]; exact hp.1
  apply Nat.le_antisymm
  · have := key (struct_inv h hn) (by rw [invL_length]; exact hn)
    rw [inv_inv h hn] at this
    exact this
  · exact key h hn
end

end Go.Proofs.YthakiaicnhkfjaaDoor

/-
  Rotating a library (plain).
-/
import Derived.Test.YtgokgcnalgpiiaaFunCongr
namespace Go.Proofs.Ytgokgcnalgpiiaa

def rotL (lib : List Fn1) (k : Nat) : List Fn1 := lib.drop k ++ lib.take k
theorem rot_len {lib : List Fn1} {k : Nat} (hk : k < lib.length) : (rotL lib k).length = lib.length := by
  unfold rotL; simp; omega
theorem rot_get {lib : List Fn1} {k f : Nat} (hk : k < lib.length) (hf : f < lib.length) : (rotL lib k)[f]? = lib[(f + k) % lib.length]? := by
  unfold rotL
  by_cases h : f < lib.length - k
  · rw [List.getElem?_append_left (by simp; omega), List.getElem?_drop, Nat.mod_eq_of_lt (by omega), Nat.add_comm]
  · rw [List.getElem?_append_right (by simp; omega), List.getElem?_take_of_lt (by simp; omega)]
    congr 1
    simp
    rw [Nat.mod_eq_sub_mod (by omega), Nat.mod_eq_of_lt (by omega)]
    omega
/-- All names differ. -/
def Dist (l : List Fn1) : Prop := ∀ (i j : Nat) (f g : Fn1), l[i]? = some f → l[j]? = some g → f.name = g.name → i = j
theorem find_uniq {l : List Fn1} (hd : Dist l) {j : Nat} {f : Fn1} (hj : l[j]? = some f) : findF l f.name 0 = j := by
  obtain ⟨h0, h1⟩ := findF_le (k := 0) hj rfl
  rcases findF_range f.name l 0 with e | ⟨i, h2, h3, h4, h5⟩
  · omega
  · have := hd i j _ _ (List.getElem?_eq_getElem h4) hj h5
    rw [h3]; omega
theorem find_none {l : List Fn1} {s : ByteArray} (h : ∀ (j : Nat) (f : Fn1), l[j]? = some f → f.name ≠ s) : findF l s 0 = -1 := by
  rcases findF_range s l 0 with e | ⟨i, h2, h3, h4, h5⟩
  · exact e
  · exact absurd h5 (h i _ (List.getElem?_eq_getElem h4))
theorem valid_dist {lib : List Fn1} (h : (validR lib).2 = 0) : Dist lib := fun i j f g hi hj e => by
  have h1 := valid_find h hi
  have h2 := valid_find h hj
  rw [e, h2] at h1
  omega
theorem rot_dist {lib : List Fn1} (hd : Dist lib) {k : Nat} (hk : k < lib.length) : Dist (rotL lib k) := fun i j f g hi hj e => by
  have li : i < lib.length := by have := (List.getElem?_eq_some_iff.1 hi).1; rw [rot_len hk] at this; exact this
  have lj : j < lib.length := by have := (List.getElem?_eq_some_iff.1 hj).1; rw [rot_len hk] at this; exact this
  rw [rot_get hk li] at hi
  rw [rot_get hk lj] at hj
  have := hd _ _ _ _ hi hj e
  by_cases h1 : i + k < lib.length <;> by_cases h2 : j + k < lib.length
  · rw [Nat.mod_eq_of_lt h1, Nat.mod_eq_of_lt h2] at this; omega
  · rw [Nat.mod_eq_of_lt h1, Nat.mod_eq_sub_mod (by omega), Nat.mod_eq_of_lt (by omega)] at this; omega
  · rw [Nat.mod_eq_of_lt h2, Nat.mod_eq_sub_mod (by omega), Nat.mod_eq_of_lt (by omega)] at this; omega
  · rw [Nat.mod_eq_sub_mod (by omega), Nat.mod_eq_of_lt (by omega), Nat.mod_eq_sub_mod (show j + k ≥ lib.length by omega), Nat.mod_eq_of_lt (by omega)] at this; omega
/-- A name in both. -/
theorem find_rot {lib : List Fn1} (hd : Dist lib) {k : Nat} (hk : k < lib.length) (s : ByteArray) : (findF lib s 0 = -1 ∧ findF (rotL lib k) s 0 = -1) ∨ ∃ (j : Nat) (f : Fn1), j < lib.length ∧ (rotL lib k)[j]? = some f ∧ lib[(j + k) % lib.length]? = some f ∧ findF (rotL lib k) s 0 = j ∧ findF lib s 0 = ((j + k) % lib.length : Nat) := by
  rcases findF_range s (rotL lib k) 0 with e | ⟨j, h1, h2, h3, h4⟩
  · refine .inl ⟨find_none (fun i f hi en => ?_), e⟩
    have hil : i < lib.length := (List.getElem?_eq_some_iff.1 hi).1
    have hm : ((i + (lib.length - k)) % lib.length + k) % lib.length = i := by
      rw [Nat.mod_add_mod, show i + (lib.length - k) + k = i + lib.length by omega, Nat.add_mod_right, Nat.mod_eq_of_lt hil]
    have hg : (rotL lib k)[(i + (lib.length - k)) % lib.length]? = some f := by
      rw [rot_get hk (Nat.mod_lt _ (by omega)), hm]; exact hi
    have := (findF_le (k := 0) hg en).1
    omega
  · have hj : j < lib.length := by rw [rot_len hk] at h1; exact h1
    have hg : (rotL lib k)[j]? = some (rotL lib k)[j] := List.getElem?_eq_getElem h3
    have hg2 := hg
    rw [rot_get hk hj] at hg2
    refine .inr ⟨j, _, hj, hg, hg2, by rw [h2]; simp, ?_⟩
    rw [← h4]
    exact find_uniq hd hg2
theorem sig_rot {lib : List Fn1} (hd : Dist lib) {k : Nat} (hk : k < lib.length) (s : ByteArray) : sigF (rotL lib k) s = sigF lib s := by
  unfold sigF
  rcases find_rot hd hk s with ⟨e1, e2⟩ | ⟨j, f, h1, h2, h3, h4, h5⟩
  · rw [e1, e2]; rfl
  · rw [h4, h5, if_neg (by omega), if_neg (by omega), Int.toNat_natCast, Int.toNat_natCast, h2, h3]
theorem rot_valid {lib : List Fn1} (h : (validR lib).2 = 0) {k : Nat} (hk : k < lib.length) : validR (rotL lib k) = (-1, 0) := by
  have hd := valid_dist h
  refine valid_of (fun i f hi => ?_)
  have li : i < lib.length := by have := (List.getElem?_eq_some_iff.1 hi).1; rw [rot_len hk] at this; exact this
  have hi2 := hi
  rw [rot_get hk li] at hi2
  obtain ⟨_, h2, _, h4, h5, h6, h7, h8⟩ := one_facts (valid_facts h hi2)
  have h30 : i < 30 := by
    have := (one_facts (valid_facts h (List.getElem?_eq_getElem li))).1
    exact this
  refine one_of h30 h2 (by rw [find_uniq (rot_dist hd hk) hi]; omega) h4 h5 h6 h7 ?_
  rw [chk_sig (lib := rotL lib k) (lib' := lib) f.body _ (fun s _ => sig_rot hd hk s)]
  exact h8
mutual
theorem calls_rot {lib : List Fn1} (hd : Dist lib) {k : Nat} (hk : k < lib.length) : ∀ (x : Nd), callsT lib x = (callsT (rotL lib k) x).map fun j : Int => (j + (k : Int)) % (lib.length : Int)
  | .mk kind _ name kids => by
    rw [callsT, callsT, List.map_append, calls_rotL hd hk kids]
    congr 1
    by_cases e : kind = 85
    · rcases find_rot hd hk name with ⟨e1, e2⟩ | ⟨j, f, h1, h2, h3, h4, h5⟩
      · rw [e1, e2, if_neg (by omega)]; rfl
      · rw [h4, h5, if_pos ⟨e, by omega⟩, if_pos ⟨e, by omega⟩]; simp
    · rw [if_neg (fun h => e h.1), if_neg (fun h => e h.1)]; rfl
theorem calls_rotL {lib : List Fn1} (hd : Dist lib) {k : Nat} (hk : k < lib.length) : ∀ (l : List Nd), callsTL lib l = (callsTL (rotL lib k) l).map fun j : Int => (j + (k : Int)) % (lib.length : Int)
  | [] => rfl
  | y :: r => by rw [callsTL, callsTL, List.map_append, calls_rot hd hk y, calls_rotL hd hk r]
end
theorem rot_in {lib : List Fn1} {k i : Nat} {f : Fn1} (h : (rotL lib k)[i]? = some f) : ∃ j : Nat, lib[j]? = some f := by
  have hm : f ∈ rotL lib k := List.mem_of_getElem? h
  unfold rotL at hm
  have hm2 : f ∈ lib := by
    rcases List.mem_append.1 hm with h | h
    · exact List.mem_of_mem_drop h
    · exact List.mem_of_mem_take h
  exact List.getElem?_of_mem hm2
theorem rot_fit {lib : List Fn1} {k : Nat} (hk : k < lib.length) (h : LibFit lib) : LibFit (rotL lib k) := ⟨by rw [rot_len hk]; exact h.1, fun i f hf => by obtain ⟨j, hj⟩ := rot_in hf; exact h.2 j f hj⟩
theorem rot_few {lib : List Fn1} {k : Nat} (h : FewParams lib) : FewParams (rotL lib k) := fun i f hf => by obtain ⟨j, hj⟩ := rot_in hf; exact h j f hj
theorem rot_nodes {lib : List Fn1} {k : Nat} (h : FewNodes lib) : FewNodes (rotL lib k) := fun i f hf => by obtain ⟨j, hj⟩ := rot_in hf; exact h j f hj

end Go.Proofs.Ytgokgcnalgpiiaa

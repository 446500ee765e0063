/-
  What validity says (plain).
-/
import Derived.Test.YtcoeakdpcigogaaDoorFunValid
namespace Go.Proofs.YtcoeakdpcigogaaDoor

theorem vldL_ok {E : Nat → Int} : ∀ (n k : Nat), (vldL E n k).2 = 0 → ∀ j, k ≤ j → j < k + n → E j = 0
  | 0, k, _, j, h1, h2 => by omega
  | n + 1, k, h, j, h1, h2 => by
    rw [vldL] at h
    by_cases e : E k = 0
    · rw [if_neg (fun h => h e)] at h
      by_cases hj : j = k
      · rw [hj]; exact e
      · exact vldL_ok n (k + 1) h j (by omega) (by omega)
    · rw [if_pos e] at h; exact absurd h e
theorem vldL_all {E : Nat → Int} : ∀ (n k : Nat), (∀ j, k ≤ j → j < k + n → E j = 0) → vldL E n k = (-1, 0)
  | 0, k, _ => rfl
  | n + 1, k, h => by
    rw [vldL, if_neg (fun e => e (h k (by omega) (by omega)))]
    exact vldL_all n (k + 1) (fun j h1 h2 => h j (by omega) (by omega))
theorem findF_le {l : List Fn1} {s : ByteArray} : ∀ {j k : Nat} {f : Fn1}, l[j]? = some f → f.name = s → 0 ≤ findF l s k ∧ findF l s k ≤ (k + j : Nat) := by
  induction l with
  | nil => intro j k f h; simp at h
  | cons g r ih =>
    intro j k f h e
    unfold findF
    by_cases hg : (g.name.toList == s.toList) = true
    · rw [if_pos hg]; omega
    · rw [if_neg hg]
      match j, h with
      | 0, h =>
        simp at h; subst h
        exact absurd (eqS_iff.2 e) hg
      | j + 1, h =>
        have := ih (j := j) (k := k + 1) (by simpa using h) e
        omega
theorem one_facts {lib : List Fn1} {i : Nat} {f : Fn1} (h : oneE lib i f = 0) : i < 30 ∧ nameB f.name = true ∧ (i : Int) ≤ findF lib f.name 0 ∧ paramE f.params = 0 ∧ formT f.body = true ∧ depT f.body ≤ 80 ∧ sizeT f.body ≤ 2000 ∧ chkT lib f.body (envF f.params) = (f.list, 0) := by
  unfold oneE at h
  by_cases h1 : 30 ≤ i
  · rw [if_pos h1] at h; cases h
  rw [if_neg h1] at h
  by_cases h2 : nameB f.name = false
  · rw [if_pos h2] at h; cases h
  rw [if_neg h2] at h
  by_cases h3 : findF lib f.name 0 < i
  · rw [if_pos h3] at h; cases h
  rw [if_neg h3] at h
  by_cases h4 : paramE f.params = 0
  rotate_left
  · rw [if_pos h4] at h; exact absurd h h4
  rw [if_neg (fun e => e h4)] at h
  by_cases h5 : formT f.body = false
  · rw [if_pos h5] at h; cases h
  rw [if_neg h5] at h
  by_cases h6 : 80 < depT f.body
  · rw [if_pos h6] at h; cases h
  rw [if_neg h6] at h
  by_cases h7 : 2000 < sizeT f.body
  · rw [if_pos h7] at h; cases h
  rw [if_neg h7] at h
  unfold chkE at h
  by_cases h8 : (chkT lib f.body (envF f.params)).2 = 0
  rotate_left
  · rw [if_pos h8] at h; exact absurd h h8
  rw [if_neg (fun e => e h8)] at h
  by_cases h9 : (chkT lib f.body (envF f.params)).1 = f.list
  rotate_left
  · rw [if_pos h9] at h; cases h
  exact ⟨by omega, by simpa using h2, by omega, h4, by simpa using h5, by omega, by omega, Prod.ext h9 h8⟩
theorem one_of {lib : List Fn1} {i : Nat} {f : Fn1} (h1 : i < 30) (h2 : nameB f.name = true) (h3 : (i : Int) ≤ findF lib f.name 0) (h4 : paramE f.params = 0) (h5 : formT f.body = true) (h6 : depT f.body ≤ 80) (h7 : sizeT f.body ≤ 2000) (h8 : chkT lib f.body (envF f.params) = (f.list, 0)) : oneE lib i f = 0 := by
  unfold oneE chkE
  rw [if_neg (by omega), if_neg (by rw [h2]; simp), if_neg (by omega), if_neg (fun e => e h4), if_neg (by rw [h5]; simp), if_neg (by omega), if_neg (by omega), h8]
  simp
theorem valid_facts {lib : List Fn1} (h : (validR lib).2 = 0) {i : Nat} {f : Fn1} (hf : lib[i]? = some f) : oneE lib i f = 0 := by
  have hi : i < lib.length := (List.getElem?_eq_some_iff.1 hf).1
  have := vldL_ok (E := oneK lib) lib.length 0 h i (by omega) (by omega)
  unfold oneK at this
  rw [hf] at this; exact this
theorem valid_of {lib : List Fn1} (h : ∀ (i : Nat) (f : Fn1), lib[i]? = some f → oneE lib i f = 0) : validR lib = (-1, 0) := by
  refine vldL_all _ _ (fun j _ hj => ?_)
  unfold oneK
  rw [List.getElem?_eq_getElem (by omega)]
  exact h j _ (List.getElem?_eq_getElem (by omega))
theorem valid_find {lib : List Fn1} (h : (validR lib).2 = 0) {i : Nat} {f : Fn1} (hf : lib[i]? = some f) : findF lib f.name 0 = i := by
  have h1 := (one_facts (valid_facts h hf)).2.2.1
  have h2 := (findF_le (k := 0) hf rfl).2
  omega

/-! ### Arities -/
mutual
def arT (lib : List Fn1) : Nd → Bool
  | .mk kind _ name kids => (if kind = 85 then decide (0 ≤ findF lib name 0) && decide (kids.length = ((lib[(findF lib name 0).toNat]?).map fun f => f.params.length).getD 0) else true) && arTL lib kids
def arTL (lib : List Fn1) : List Nd → Bool
  | [] => true
  | y :: r => arT lib y && arTL lib r
end
theorem arT_eq (lib : List Fn1) (x : Nd) : arT lib x = ((if x.kind = 85 then decide (0 ≤ findF lib x.name 0) && decide (x.kids.length = ((lib[(findF lib x.name 0).toNat]?).map fun f => f.params.length).getD 0) else true) && arTL lib x.kids) := by cases x; rw [arT]; rfl
theorem arTL_kid {lib : List Fn1} : ∀ {l : List Nd}, arTL lib l = true → ∀ {k : Nat} {y : Nd}, l[k]? = some y → arT lib y = true
  | [], _, k, y, hy => by simp at hy
  | x :: r, h, 0, y, hy => by
    rw [arTL] at h; simp at h hy; rw [← hy]; exact h.1
  | x :: r, h, k + 1, y, hy => by
    rw [arTL] at h; simp at h hy; exact arTL_kid h.2 hy
theorem reach85 {lib : List Fn1} {env : ByteArray → Option Bool} {x : Nd} (h1 : reachE lib env x = 0) (h85 : x.kind = 85) : 0 ≤ findF lib x.name 0 ∧ x.kids.length = ((lib[(findF lib x.name 0).toNat]?).map fun f => f.params.length).getD 0 := by
  unfold reachE at h1
  rw [if_neg (by omega), if_neg (by omega), if_pos h85] at h1
  by_cases h4 : findF lib x.name 0 < 0
  · rw [if_pos h4] at h1; cases h1
  rw [if_neg h4] at h1
  by_cases h5 : x.kids.length = ((lib[(findF lib x.name 0).toNat]?).map fun f => f.params.length).getD 0
  · exact ⟨by omega, h5⟩
  · rw [if_pos h5] at h1; cases h1
mutual
theorem chk_ar (lib : List Fn1) : ∀ (x : Nd) (env : ByteArray → Option Bool), (chkT lib x env).2 = 0 → arT lib x = true
  | .mk kind num name kids, env, h => by
    rw [chkT] at h
    by_cases h1 : reachE lib env (.mk kind num name kids) = 0
    rotate_left
    · rw [if_pos h1] at h; exact absurd h h1
    rw [if_neg (fun e => e h1)] at h
    by_cases h2 : (chkTL lib kids env kind name 0 []).2 = 0
    rotate_left
    · rw [if_pos h2] at h; exact absurd h h2
    have h3 := chk_arL lib kids env kind name 0 [] h2
    rw [arT, h3, Bool.and_true]
    by_cases h85 : kind = 85
    · rw [if_pos h85]
      obtain ⟨h4, h5⟩ := reach85 (x := .mk kind num name kids) h1 h85
      have h5 : kids.length = ((lib[(findF lib name 0).toNat]?).map fun f => f.params.length).getD 0 := h5
      have h4 : 0 ≤ findF lib name 0 := h4
      rw [← h5]
      simp; omega
    · rw [if_neg h85]
theorem chk_arL (lib : List Fn1) : ∀ (l : List Nd) (env : ByteArray → Option Bool) (kind : Nat) (name : ByteArray) (i : Nat) (ts : List Bool), (chkTL lib l env kind name i ts).2 = 0 → arTL lib l = true
  | [], _, _, _, _, _, _ => rfl
  | y :: r, env, kind, name, i, ts, h => by
    rw [chkTL] at h
    by_cases h1 : (chkT lib y (envAt kind name env i ts)).2 = 0
    · rw [if_neg (fun e => e h1)] at h
      rw [arTL, chk_ar lib y _ h1, chk_arL lib r _ _ _ _ _ h]; rfl
    · rw [if_pos h1] at h; exact absurd h h1
end

end Go.Proofs.YtcoeakdpcigogaaDoor

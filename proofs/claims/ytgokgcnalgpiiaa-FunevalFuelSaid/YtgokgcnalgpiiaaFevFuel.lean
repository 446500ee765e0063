/-
  Fuel decides only whether an evaluation ends (plain).
-/
import Derived.Test.YtgokgcnalgpiiaaFevPlain
namespace Go.Proofs.Ytgokgcnalgpiiaa

/-- Out of fuel, or the same with k more. -/
def Out.sh (k : Nat) (o o' : Out) : Prop := o = .err 18 ∨ o' = o.add k
def OutL.sh (k : Nat) (o o' : OutL) : Prop := o = .err 18 ∨ o' = o.add k
theorem Out.pre_add (k : Nat) (c : List Tr) (o : Out) : (o.add k).pre c = (o.pre c).add k := by cases o <;> rfl
theorem Out.sh_pre {k : Nat} {c : List Tr} {o o' : Out} (h : Out.sh k o o') : Out.sh k (o.pre c) (o'.pre c) := by
  rcases h with h | h
  · left; rw [h]; rfl
  · right; rw [h, Out.pre_add]
theorem Out.sh_bind {k n : Nat} {o o' : Out} {K K' : Vl → Nat → Out} (h : Out.sh k o o') (hl : o.le n) (hK : ∀ v f, f ≤ n → Out.sh k (K v f) (K' v (f + k))) : Out.sh k (o.bind K) (o'.bind K') := by
  rcases h with h | h
  · left; rw [h]; rfl
  · subst h
    cases o with
    | err e => right; rfl
    | ok v f c => exact Out.sh_pre (hK v f hl)
theorem OutL.sh_bind {k n : Nat} {o o' : OutL} {K K' : List Vl → Nat → Out} (h : OutL.sh k o o') (hl : o.le n) (hK : ∀ v f, f ≤ n → Out.sh k (K v f) (K' v (f + k))) : Out.sh k (o.bind K) (o'.bind K') := by
  rcases h with h | h
  · left; rw [h]; rfl
  · subst h
    cases o with
    | err e => right; rfl
    | ok v f c => exact Out.sh_pre (hK v f hl)
theorem evL_sh {k n : Nat} {E E' : Nd → Nat → Out} (hE : ∀ x f, f ≤ n → Out.sh k (E x f) (E' x (f + k))) (hle : ∀ x f, (E x f).le f) : ∀ (l : List Nd) (f : Nat), f ≤ n → OutL.sh k (evL E l f) (evL E' l (f + k))
  | [], f, _ => .inr rfl
  | x :: r, f, hf => by
    rw [evL, evL]
    have h1 := hE x f hf
    have h2 := hle x f
    cases h : E x f with
    | err e =>
      rw [h] at h1
      rcases h1 with h1 | h1
      · cases h1; exact .inl rfl
      · rw [h1]; exact .inr rfl
    | ok v f1 c1 =>
      rw [h] at h1 h2
      rcases h1 with h1 | h1
      · cases h1
      rw [h1]
      have h3 := evL_sh hE hle r f1 (Nat.le_trans h2 hf)
      dsimp only [Out.add]
      cases h' : evL E r f1 with
      | err e =>
        rw [h'] at h3
        rcases h3 with h3 | h3
        · cases h3; exact .inl rfl
        · rw [h3]; exact .inr rfl
      | ok vs f2 c2 =>
        rw [h'] at h3
        rcases h3 with h3 | h3
        · cases h3
        · rw [h3]; exact .inr rfl
theorem enter_sh {lib : List Fn1} {k n : Nat} {E E' : Nat → (ByteArray → Option Vl) → Nd → Nat → Out} (hE : ∀ a env x f, f ≤ n → Out.sh k (E a env x f) (E' a env x (f + k))) (act : Nat) (i : Int) (args : List Vl) (f : Nat) (hf : f ≤ n) : Out.sh k (enter lib E act i args f).out (enter lib E' act i args (f + k)).out := by
  unfold enter
  split
  · exact .inr rfl
  split
  · exact .inr rfl
  rename_i fn _
  have h1 := hE (act + 1) (envV fn.params args fun _ => none) fn.body f hf
  cases h : E (act + 1) (envV fn.params args fun _ => none) fn.body f with
  | err e =>
    rw [h] at h1
    rcases h1 with h1 | h1
    · cases h1; exact .inl rfl
    · rw [h1]; exact .inr rfl
  | ok y f1 c =>
    rw [h] at h1
    rcases h1 with h1 | h1
    · cases h1
    · rw [h1]; exact .inr rfl
theorem opO_sh (ap : Int → Int → Int → Int × Int) (x : Nd) (l : List Vl) (f k : Nat) : Out.sh k (opO ap x l f) (opO ap x l (f + k)) := by
  unfold opO
  split
  · exact .inr rfl
  · exact .inr rfl
/-- With more fuel: the same, or the fuel had run out. -/
theorem ev_sh (ap : Int → Int → Int → Int × Int) (lib : List Fn1) (k : Nat) : ∀ (d d' act : Nat) (env : ByteArray → Option Vl) (x : Nd) (f : Nat), f + k ≤ d' → Out.sh k (ev ap lib d act env x f) (ev ap lib d' act env x (f + k))
  | 0, _, _, _, _, _, _ => .inl rfl
  | d + 1, 0, act, env, x, f, h => by
    exact .inl (by rw [ev, if_pos (by omega)])
  | d + 1, d' + 1, act, env, x, f, h => by
    have le : ∀ a env x f, (ev ap lib d a env x f).le f := fun a env x f => Out.le_mono (Nat.sub_le _ _) (ev_le ap lib d a env x f)
    rw [ev, ev]
    by_cases h0 : f = 0
    · rw [if_pos h0]; exact .inl rfl
    have ih : ∀ a env x g, g ≤ f - 1 → Out.sh k (ev ap lib d a env x g) (ev ap lib d' a env x (g + k)) := fun a env x g hg => ev_sh ap lib k d d' a env x g (by omega)
    rw [if_neg h0, if_neg (show ¬ (f + k = 0) by omega), show f + k - 1 = f - 1 + k by omega]
    split
    · exact .inr rfl
    split
    · exact .inr rfl
    split
    · exact Out.sh_bind (ih _ _ _ _ (Nat.le_refl _)) (le _ _ _ _) fun v g hg => ih _ _ _ _ hg
    split
    · exact Out.sh_bind (ih _ _ _ _ (Nat.le_refl _)) (le _ _ _ _) fun v g hg => ih _ _ _ _ hg
    · refine OutL.sh_bind (evL_sh (ih _ _) (le _ _) _ _ (Nat.le_refl _)) (evL_le (le _ _) _ _) fun v g hg => ?_
      split
      · exact enter_sh ih _ _ _ _ hg
      · exact opO_sh _ _ _ _ _
/-- With enough room the bound does not matter. -/
theorem ev_bound (ap : Int → Int → Int → Int × Int) (lib : List Fn1) (d d' act : Nat) (env : ByteArray → Option Vl) (x : Nd) (f : Nat) (h : f ≤ d) (h' : f ≤ d') : ev ap lib d act env x f = ev ap lib d' act env x f := by
  have z : ∀ o : Out, o.add 0 = o := fun o => by cases o <;> rfl
  rcases ev_sh ap lib 0 d d' act env x f h' with h1 | h1
  · rcases ev_sh ap lib 0 d' d act env x f h with h2 | h2
    · rw [h1, h2]
    · rw [z] at h2; exact h2
  · rw [z] at h1; exact h1.symm

end Go.Proofs.Ytgokgcnalgpiiaa

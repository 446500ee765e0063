/-
  Fuel decides only whether an evaluation ends (plain).
  Call trees: the number of calls and the height (plain).
  Another library with the same functions under other numbers (plain).
-/
import Derived.Test.YtcoeakdpcigogaaDoorFevPlain
namespace Go.Proofs.YtcoeakdpcigogaaDoor

/-- Out of fuel, or the same with k more. -/
def Out.sh (k : Nat) (o o' : Out) : Prop := o = .err 18 ∨ o' = o.add k
def OutL.sh (k : Nat) (o o' : OutL) : Prop := o = .err 18 ∨ o' = o.add k
theorem Out.pre_add (k : Nat) (c : List Tr) (o : Out) : (o.add k).pre c = (o.pre c).add k := by cases o <;> rfl
theorem Out.sh_pre {k : Nat} {c : List Tr} {o o' : Out} (h : Out.sh k o o') : Out.sh k (o.pre c) (o'.pre c) := by
  rcases h with h | h
  · left; rw [h]; rfl
  · right; rw [h, Out.pre_add]
theorem Out.sh_bind {k n : Nat} {o o' : Out} {K K' : Vl → Nat → Out} (h : Out.sh k o o') (hl : o.le n) (hK : ∀ v f, f ≤ n → Out.sh k (K v f) (K' v (f + k))) : Out.sh k (o.bind K) (o'.bind K') := by
  rcases h with h | h
  · left; rw [h]; rfl
  · subst h
    cases o with
    | err e => right; rfl
    | ok v f c => exact Out.sh_pre (hK v f hl)
theorem OutL.sh_bind {k n : Nat} {o o' : OutL} {K K' : List Vl → Nat → Out} (h : OutL.sh k o o') (hl : o.le n) (hK : ∀ v f, f ≤ n → Out.sh k (K v f) (K' v (f + k))) : Out.sh k (o.bind K) (o'.bind K') := by
  rcases h with h | h
  · left; rw [h]; rfl
  · subst h
    cases o with
    | err e => right; rfl
    | ok v f c => exact Out.sh_pre (hK v f hl)
theorem evL_sh {k n : Nat} {E E' : Nd → Nat → Out} (hE : ∀ x f, f ≤ n → Out.sh k (E x f) (E' x (f + k))) (hle : ∀ x f, (E x f).le f) : ∀ (l : List Nd) (f : Nat), f ≤ n → OutL.sh k (evL E l f) (evL E' l (f + k))
  | [], f, _ => .inr rfl
  | x :: r, f, hf => by
    rw [evL, evL]
    have h1 := hE x f hf
    have h2 := hle x f
    cases h : E x f with
    | err e =>
      rw [h] at h1
      rcases h1 with h1 | h1
      · cases h1; exact .inl rfl
      · rw [h1]; exact .inr rfl
    | ok v f1 c1 =>
      rw [h] at h1 h2
      rcases h1 with h1 | h1
      · cases h1
      rw [h1]
      have h3 := evL_sh hE hle r f1 (Nat.le_trans h2 hf)
      dsimp only [Out.add]
      cases h' : evL E r f1 with
      | err e =>
        rw [h'] at h3
        rcases h3 with h3 | h3
        · cases h3; exact .inl rfl
        · rw [h3]; exact .inr rfl
      | ok vs f2 c2 =>
        rw [h'] at h3
        rcases h3 with h3 | h3
        · cases h3
        · rw [h3]; exact .inr rfl
theorem enter_sh {lib : List Fn1} {k n : Nat} {E E' : Nat → (ByteArray → Option Vl) → Nd → Nat → Out} (hE : ∀ a env x f, f ≤ n → Out.sh k (E a env x f) (E' a env x (f + k))) (act : Nat) (i : Int) (args : List Vl) (f : Nat) (hf : f ≤ n) : Out.sh k (enter lib E act i args f).out (enter lib E' act i args (f + k)).out := by
  unfold enter
  split
  · exact .inr rfl
  split
  · exact .inr rfl
  rename_i fn _
  have h1 := hE (act + 1) (envV fn.params args fun _ => none) fn.body f hf
  cases h : E (act + 1) (envV fn.params args fun _ => none) fn.body f with
  | err e =>
    rw [h] at h1
    rcases h1 with h1 | h1
    · cases h1; exact .inl rfl
    · rw [h1]; exact .inr rfl
  | ok y f1 c =>
    rw [h] at h1
    rcases h1 with h1 | h1
    · cases h1
    · rw [h1]; exact .inr rfl
theorem opO_sh (ap : Int → Int → Int → Int × Int) (x : Nd) (l : List Vl) (f k : Nat) : Out.sh k (opO ap x l f) (opO ap x l (f + k)) := by
  unfold opO
  split
  · exact .inr rfl
  · exact .inr rfl
/-- With more fuel: the same, or the fuel had run out. -/
theorem ev_sh (ap : Int → Int → Int → Int × Int) (lib : List Fn1) (k : Nat) : ∀ (d d' act : Nat) (env : ByteArray → Option Vl) (x : Nd) (f : Nat), f + k ≤ d' → Out.sh k (ev ap lib d act env x f) (ev ap lib d' act env x (f + k))
  | 0, _, _, _, _, _, _ => .inl rfl
  | d + 1, 0, act, env, x, f, h => by
    exact .inl (by rw [ev, if_pos (by omega)])
  | d + 1, d' + 1, act, env, x, f, h => by
    have le : ∀ a env x f, (ev ap lib d a env x f).le f := fun a env x f => Out.le_mono (Nat.sub_le _ _) (ev_le ap lib d a env x f)
    rw [ev, ev]
    by_cases h0 : f = 0
    · rw [if_pos h0]; exact .inl rfl
    have ih : ∀ a env x g, g ≤ f - 1 → Out.sh k (ev ap lib d a env x g) (ev ap lib d' a env x (g + k)) := fun a env x g hg => ev_sh ap lib k d d' a env x g (by omega)
    rw [if_neg h0, if_neg (show ¬ (f + k = 0) by omega), show f + k - 1 = f - 1 + k by omega]
    split
    · exact .inr rfl
    split
    · exact .inr rfl
    split
    · exact Out.sh_bind (ih _ _ _ _ (Nat.le_refl _)) (le _ _ _ _) fun v g hg => ih _ _ _ _ hg
    split
    · exact Out.sh_bind (ih _ _ _ _ (Nat.le_refl _)) (le _ _ _ _) fun v g hg => ih _ _ _ _ hg
    · refine OutL.sh_bind (evL_sh (ih _ _) (le _ _) _ _ (Nat.le_refl _)) (evL_le (le _ _) _ _) fun v g hg => ?_
      split
      · exact enter_sh ih _ _ _ _ hg
      · exact opO_sh _ _ _ _ _
/-- With enough room the bound does not matter. -/
theorem ev_bound (ap : Int → Int → Int → Int × Int) (lib : List Fn1) (d d' act : Nat) (env : ByteArray → Option Vl) (x : Nd) (f : Nat) (h : f ≤ d) (h' : f ≤ d') : ev ap lib d act env x f = ev ap lib d' act env x f := by
  have z : ∀ o : Out, o.add 0 = o := fun o => by cases o <;> rfl
  rcases ev_sh ap lib 0 d d' act env x f h' with h1 | h1
  · rcases ev_sh ap lib 0 d' d act env x f h with h2 | h2
    · rw [h1, h2]
    · rw [z] at h2; exact h2
  · rw [z] at h1; exact h1.symm

end Go.Proofs.YtcoeakdpcigogaaDoor

namespace Go.Proofs.YtcoeakdpcigogaaDoor

mutual
def stepsT : Tr → Nat
  | .mk _ _ _ c => 1 + stepsL c
def stepsL : List Tr → Nat
  | [] => 0
  | t :: r => stepsT t + stepsL r
end
mutual
def highT : Tr → Nat
  | .mk _ _ _ c => highL c + 1
def highL : List Tr → Nat
  | [] => 0
  | t :: r => max (highT t) (highL r)
end
theorem stepsL_append : ∀ c c' : List Tr, stepsL (c ++ c') = stepsL c + stepsL c'
  | [], c' => by rw [List.nil_append, stepsL]; omega
  | t :: r, c' => by rw [List.cons_append, stepsL, stepsL, stepsL_append r c']; omega
theorem highL_append : ∀ c c' : List Tr, highL (c ++ c') = max (highL c) (highL c')
  | [], c' => by rw [List.nil_append, highL]; omega
  | t :: r, c' => by rw [List.cons_append, highL, highL, highL_append r c']; omega

/-! ### Every call costs -/
def Out.cost (n : Nat) : Out → Prop
  | .err _ => True
  | .ok _ f c => f + stepsL c ≤ n
def OutL.cost (n : Nat) : OutL → Prop
  | .err _ => True
  | .ok _ f c => f + stepsL c ≤ n
theorem Out.cost_mono {n m : Nat} (h : n ≤ m) {o : Out} (ho : o.cost n) : o.cost m := by
  cases o
  · trivial
  · exact Nat.le_trans (show _ ≤ n from ho) h
theorem Out.pre_cost {n f : Nat} {c : List Tr} {o : Out} (ho : o.cost f) (h : f + stepsL c ≤ n) : (o.pre c).cost n := by
  cases o with
  | err e => trivial
  | ok v g c' =>
    have : g + stepsL c' ≤ f := ho
    show g + stepsL (c ++ c') ≤ n
    rw [stepsL_append]; omega
theorem Out.bind_cost {n : Nat} {o : Out} {k : Vl → Nat → Out} (ho : o.cost n) (hk : ∀ v f, (k v f).cost f) : (o.bind k).cost n := by
  cases o with
  | err e => trivial
  | ok v f c => exact Out.pre_cost (hk v f) ho
theorem OutL.bind_cost {n : Nat} {o : OutL} {k : List Vl → Nat → Out} (ho : o.cost n) (hk : ∀ v f, (k v f).cost f) : (o.bind k).cost n := by
  cases o with
  | err e => trivial
  | ok v f c => exact Out.pre_cost (hk v f) ho
theorem evL_cost {E : Nd → Nat → Out} (hE : ∀ x f, (E x f).cost f) : ∀ (l : List Nd) (f : Nat), (evL E l f).cost f
  | [], f => Nat.le_refl f
  | x :: r, f => by
    rw [evL]
    have h1 := hE x f
    cases h : E x f with
    | err e => trivial
    | ok v f1 c1 =>
      rw [h] at h1
      have h1 : f1 + stepsL c1 ≤ f := h1
      have h2 := evL_cost hE r f1
      dsimp only
      cases h' : evL E r f1 with
      | err e => trivial
      | ok vs f2 c2 =>
        rw [h'] at h2
        have h2 : f2 + stepsL c2 ≤ f1 := h2
        show f2 + stepsL (c1 ++ c2) ≤ f
        rw [stepsL_append]; omega
theorem opO_cost (ap : Int → Int → Int → Int × Int) (x : Nd) (l : List Vl) (f : Nat) : (opO ap x l f).cost f := by
  unfold opO
  split
  · exact Nat.le_refl f
  · trivial
/-- One evaluation costs one more than what its calls cost. -/
def Out.costS (n : Nat) : Out → Prop
  | .err _ => True
  | .ok _ f c => f + stepsL c + 1 ≤ n
theorem Out.cost_S {n : Nat} {o : Out} (h : o.costS n) : o.cost n := by
  cases o
  · trivial
  · exact Nat.le_of_succ_le (show _ + 1 ≤ n from h)
theorem Out.costS_of {n : Nat} (h0 : n ≠ 0) {o : Out} (h : o.cost (n - 1)) : o.costS n := by
  cases o with
  | err e => trivial
  | ok v f c =>
    have : f + stepsL c ≤ n - 1 := h
    show f + stepsL c + 1 ≤ n
    omega
theorem enter_cost {lib : List Fn1} {E : Nat → (ByteArray → Option Vl) → Nd → Nat → Out} (hE : ∀ a env x f, (E a env x f).costS f) (act : Nat) (i : Int) (args : List Vl) (f : Nat) : (enter lib E act i args f).out.cost f := by
  unfold enter
  split
  · trivial
  split
  · trivial
  rename_i fn _
  have h1 := hE (act + 1) (envV fn.params args fun _ => none) fn.body f
  cases h : E (act + 1) (envV fn.params args fun _ => none) fn.body f with
  | err e => trivial
  | ok y f1 c =>
    rw [h] at h1
    have h1 : f1 + stepsL c + 1 ≤ f := h1
    show f1 + stepsL [Tr.mk i (args.map cln) (cln y) c] ≤ f
    rw [stepsL, stepsL, stepsT]; omega
theorem ev_cost (ap : Int → Int → Int → Int × Int) (lib : List Fn1) : ∀ (d act : Nat) (env : ByteArray → Option Vl) (x : Nd) (f : Nat), (ev ap lib d act env x f).costS f
  | 0, _, _, _, _ => trivial
  | d + 1, act, env, x, f => by
    have ih := ev_cost ap lib d
    have ih' : ∀ a env x f, (ev ap lib d a env x f).cost f := fun a env x f => Out.cost_S (ih a env x f)
    rw [ev]
    split
    · trivial
    rename_i h0
    refine Out.costS_of h0 ?_
    split
    · exact Nat.le_refl _
    split
    · exact Nat.le_refl _
    split
    · exact Out.bind_cost (ih' _ _ _ _) fun v g => ih' _ _ _ _
    split
    · exact Out.bind_cost (ih' _ _ _ _) fun v g => ih' _ _ _ _
    · refine OutL.bind_cost (evL_cost (ih' _ _) _ _) fun v g => ?_
      split
      · exact enter_cost ih _ _ _ _
      · exact opO_cost _ _ _ _

/-! ### One level deeper -/
def Out.hi (n : Nat) (o : Out) : Prop := ∀ v f c, o = .ok v f c → highL c ≤ n
def Out.dp (act : Nat) (o o1 : Out) : Prop := o.hi (30 - act) ∧ ((o1 = o ∧ o.hi (30 - (act + 1))) ∨ (o1 = .err 19 ∧ ∀ v f c, o = .ok v f c → highL c = 30 - act))
def OutL.hi (n : Nat) (o : OutL) : Prop := ∀ v f c, o = .ok v f c → highL c ≤ n
def OutL.dp (act : Nat) (o o1 : OutL) : Prop := o.hi (30 - act) ∧ ((o1 = o ∧ o.hi (30 - (act + 1))) ∨ (o1 = .err 19 ∧ ∀ v f c, o = .ok v f c → highL c = 30 - act))
theorem Out.dp_err (act : Nat) (e : Int) : Out.dp act (.err e) (.err e) := ⟨(fun _ _ _ h => by cases h), .inl ⟨rfl, (fun _ _ _ h => by cases h)⟩⟩
theorem Out.dp_err' (act : Nat) (e : Int) : Out.dp act (.err e) (.err 19) := ⟨(fun _ _ _ h => by cases h), .inr ⟨rfl, (fun _ _ _ h => by cases h)⟩⟩
theorem Out.dp_ok (act : Nat) (v : Vl) (f : Nat) : Out.dp act (.ok v f []) (.ok v f []) := by
  refine ⟨fun _ _ c h => ?_, .inl ⟨rfl, fun _ _ c h => ?_⟩⟩ <;> cases h <;> rw [highL] <;> omega
theorem OutL.dp_err (act : Nat) (e : Int) : OutL.dp act (.err e) (.err e) := ⟨(fun _ _ _ h => by cases h), .inl ⟨rfl, (fun _ _ _ h => by cases h)⟩⟩
theorem OutL.dp_err' (act : Nat) (e : Int) : OutL.dp act (.err e) (.err 19) := ⟨(fun _ _ _ h => by cases h), .inr ⟨rfl, (fun _ _ _ h => by cases h)⟩⟩
theorem OutL.dp_ok (act : Nat) (v : List Vl) (f : Nat) : OutL.dp act (.ok v f []) (.ok v f []) := by
  refine ⟨fun _ _ c h => ?_, .inl ⟨rfl, fun _ _ c h => ?_⟩⟩ <;> cases h <;> rw [highL] <;> omega
/-- What follows a first part that is the same. -/
theorem Out.dp_pre {act : Nat} {c : List Tr} {o o1 : Out} (h : Out.dp act o o1) (hc : highL c ≤ 30 - (act + 1)) : Out.dp act (o.pre c) (o1.pre c) := by
  obtain ⟨h1, h2⟩ := h
  cases o with
  | err e =>
    rcases h2 with ⟨rfl, _⟩ | ⟨rfl, _⟩
    · exact Out.dp_err act e
    · exact Out.dp_err' act e
  | ok v f c' =>
    have h1 := h1 v f c' rfl
    rcases h2 with ⟨rfl, h3⟩ | ⟨rfl, h3⟩
    · have h3 := h3 v f c' rfl
      refine ⟨fun _ _ c2 h => ?_, .inl ⟨rfl, fun _ _ c2 h => ?_⟩⟩ <;> cases h <;> rw [highL_append] <;> omega
    · have h3 := h3 v f c' rfl
      refine ⟨fun _ _ c2 h => ?_, .inr ⟨rfl, fun _ _ c2 h => ?_⟩⟩ <;> cases h <;> rw [highL_append] <;> omega
/-- What follows a first part that has reached the limit. -/
theorem Out.dp_pre' {act : Nat} {c : List Tr} {o : Out} (h : o.hi (30 - act)) (hc : highL c = 30 - act) : Out.dp act (o.pre c) (.err 19) := by
  cases o with
  | err e => exact Out.dp_err' act e
  | ok v f c' =>
    have h1 := h v f c' rfl
    refine ⟨fun _ _ c2 h => ?_, .inr ⟨rfl, fun _ _ c2 h => ?_⟩⟩ <;> cases h <;> rw [highL_append] <;> omega
theorem Out.dp_bind {act : Nat} {o o1 : Out} {K K1 : Vl → Nat → Out} (h : Out.dp act o o1) (hK : ∀ v f, Out.dp act (K v f) (K1 v f)) : Out.dp act (o.bind K) (o1.bind K1) := by
  obtain ⟨h1, h2⟩ := h
  cases o with
  | err e =>
    rcases h2 with ⟨rfl, _⟩ | ⟨rfl, _⟩
    · exact Out.dp_err act e
    · exact Out.dp_err' act e
  | ok v f c =>
    rcases h2 with ⟨rfl, h3⟩ | ⟨rfl, h3⟩
    · exact Out.dp_pre (hK v f) (h3 v f c rfl)
    · exact Out.dp_pre' (hK v f).1 (h3 v f c rfl)
theorem OutL.dp_bind {act : Nat} {o o1 : OutL} {K K1 : List Vl → Nat → Out} (h : OutL.dp act o o1) (hK : ∀ v f, Out.dp act (K v f) (K1 v f)) : Out.dp act (o.bind K) (o1.bind K1) := by
  obtain ⟨h1, h2⟩ := h
  cases o with
  | err e =>
    rcases h2 with ⟨rfl, _⟩ | ⟨rfl, _⟩
    · exact Out.dp_err act e
    · exact Out.dp_err' act e
  | ok v f c =>
    rcases h2 with ⟨rfl, h3⟩ | ⟨rfl, h3⟩
    · exact Out.dp_pre (hK v f) (h3 v f c rfl)
    · exact Out.dp_pre' (hK v f).1 (h3 v f c rfl)
theorem evL_dp {act : Nat} {E E1 : Nd → Nat → Out} (hE : ∀ x f, Out.dp act (E x f) (E1 x f)) : ∀ (l : List Nd) (f : Nat), OutL.dp act (evL E l f) (evL E1 l f)
  | [], f => OutL.dp_ok act [] f
  | x :: r, f => by
    rw [evL, evL]
    obtain ⟨h1, h2⟩ := hE x f
    cases h : E x f with
    | err e =>
      rw [h] at h2
      rcases h2 with ⟨h2, _⟩ | ⟨h2, _⟩
      · rw [h2]; exact OutL.dp_err act e
      · rw [h2]; exact OutL.dp_err' act e
    | ok v f1 c1 =>
      have h1 := h1 v f1 c1 h
      rw [h] at h2
      obtain ⟨k1, k2⟩ := evL_dp hE r f1
      rcases h2 with ⟨h2, h3⟩ | ⟨h2, h3⟩
      · rw [h2]
        have h3 := h3 v f1 c1 rfl
        dsimp only
        cases h' : evL E r f1 with
        | err e =>
          rw [h'] at k2
          rcases k2 with ⟨k2, _⟩ | ⟨k2, _⟩
          · rw [k2]; exact OutL.dp_err act e
          · rw [k2]; exact OutL.dp_err' act e
        | ok vs f2 c2 =>
          have k1 := k1 vs f2 c2 h'
          rw [h'] at k2
          rcases k2 with ⟨k2, k3⟩ | ⟨k2, k3⟩
          · rw [k2]
            have k3 := k3 vs f2 c2 rfl
            refine ⟨fun _ _ c3 h => ?_, .inl ⟨rfl, fun _ _ c3 h => ?_⟩⟩ <;> cases h <;> rw [highL_append] <;> omega
          · rw [k2]
            have k3 := k3 vs f2 c2 rfl
            refine ⟨fun _ _ c3 h => ?_, .inr ⟨rfl, fun _ _ c3 h => ?_⟩⟩ <;> cases h <;> rw [highL_append] <;> omega
      · rw [h2]
        have h3 := h3 v f1 c1 rfl
        dsimp only
        cases h' : evL E r f1 with
        | err e => exact OutL.dp_err' act e
        | ok vs f2 c2 =>
          have k1 := k1 vs f2 c2 h'
          refine ⟨fun _ _ c3 h => ?_, .inr ⟨rfl, fun _ _ c3 h => ?_⟩⟩ <;> cases h <;> rw [highL_append] <;> omega
theorem enter_dp {lib : List Fn1} {E : Nat → (ByteArray → Option Vl) → Nd → Nat → Out} (hE : ∀ a env x f, Out.dp a (E a env x f) (E (a + 1) env x f)) (act : Nat) (i : Int) (args : List Vl) (f : Nat) : Out.dp act (enter lib E act i args f).out (enter lib E (act + 1) i args f).out := by
  unfold enter
  by_cases h30 : 30 ≤ act
  · rw [if_pos h30, if_pos (by omega)]; exact Out.dp_err act 19
  rw [if_neg h30]
  cases hl : lib[i.toNat]? with
  | none =>
    by_cases h29 : 30 ≤ act + 1
    · rw [if_pos h29]; exact Out.dp_err' act 0
    · rw [if_neg h29]; exact Out.dp_err act 0
  | some fn =>
    obtain ⟨h1, h2⟩ := hE (act + 1) (envV fn.params args fun _ => none) fn.body f
    dsimp only
    cases h : E (act + 1) (envV fn.params args fun _ => none) fn.body f with
    | err e =>
      rw [h] at h2
      by_cases h29 : 30 ≤ act + 1
      · rw [if_pos h29]; exact Out.dp_err' act e
      rw [if_neg h29]
      rcases h2 with ⟨h2, _⟩ | ⟨h2, _⟩
      · rw [h2]; exact Out.dp_err act e
      · rw [h2]; exact Out.dp_err' act e
    | ok y f1 c =>
      have h1 := h1 y f1 c h
      rw [h] at h2
      have hh : highL [Tr.mk i (args.map cln) (cln y) c] = highL c + 1 := by rw [highL, highL, highT]; omega
      by_cases h29 : 30 ≤ act + 1
      · rw [if_pos h29]
        refine ⟨fun _ _ c3 h => ?_, .inr ⟨rfl, fun _ _ c3 h => ?_⟩⟩ <;> cases h <;> rw [hh] <;> omega
      rw [if_neg h29]
      rcases h2 with ⟨h2, h3⟩ | ⟨h2, h3⟩
      · rw [h2]
        have h3 := h3 y f1 c rfl
        refine ⟨fun _ _ c3 h => ?_, .inl ⟨rfl, fun _ _ c3 h => ?_⟩⟩ <;> cases h <;> rw [hh] <;> omega
      · rw [h2]
        have h3 := h3 y f1 c rfl
        refine ⟨fun _ _ c3 h => ?_, .inr ⟨rfl, fun _ _ c3 h => ?_⟩⟩ <;> cases h <;> rw [hh] <;> omega
theorem opO_dp (ap : Int → Int → Int → Int × Int) (x : Nd) (l : List Vl) (f act : Nat) : Out.dp act (opO ap x l f) (opO ap x l f) := by
  unfold opO
  split
  · exact Out.dp_ok _ _ _
  · exact Out.dp_err _ _
/-- One level deeper: the same, or the limit is reached. -/
theorem ev_dp (ap : Int → Int → Int → Int × Int) (lib : List Fn1) : ∀ (d act : Nat) (env : ByteArray → Option Vl) (x : Nd) (f : Nat), Out.dp act (ev ap lib d act env x f) (ev ap lib d (act + 1) env x f)
  | 0, _, _, _, _ => Out.dp_err _ _
  | d + 1, act, env, x, f => by
    have ih := ev_dp ap lib d
    rw [ev, ev]
    split
    · exact Out.dp_err _ _
    split
    · exact Out.dp_ok _ _ _
    split
    · exact Out.dp_ok _ _ _
    split
    · exact Out.dp_bind (ih _ _ _ _) fun v g => ih _ _ _ _
    split
    · exact Out.dp_bind (ih _ _ _ _) fun v g => ih _ _ _ _
    · refine OutL.dp_bind (evL_dp (ih _ _) _ _) fun v g => ?_
      split
      · exact enter_dp ih _ _ _ _
      · exact opO_dp _ _ _ _ _

end Go.Proofs.YtcoeakdpcigogaaDoor

namespace Go.Proofs.YtcoeakdpcigogaaDoor

mutual
def renT (φ : Int → Int) : Tr → Tr
  | .mk f a r c => .mk (φ f) a r (renL φ c)
def renL (φ : Int → Int) : List Tr → List Tr
  | [] => []
  | t :: r => renT φ t :: renL φ r
end
theorem renL_append (φ : Int → Int) : ∀ c c' : List Tr, renL φ (c ++ c') = renL φ c ++ renL φ c'
  | [], c' => by rw [List.nil_append, renL, List.nil_append]
  | t :: r, c' => by rw [List.cons_append, renL, renL, renL_append φ r c', List.cons_append]
mutual
theorem renT_id : ∀ t : Tr, renT (fun i => i) t = t
  | .mk f a r c => by rw [renT, renL_id c]
theorem renL_id : ∀ c : List Tr, renL (fun i => i) c = c
  | [] => by rw [renL]
  | t :: r => by rw [renL, renT_id t, renL_id r]
end
def Out.ren (φ : Int → Int) : Out → Out
  | .err e => .err e
  | .ok v f c => .ok v f (renL φ c)
def OutL.ren (φ : Int → Int) : OutL → OutL
  | .err e => .err e
  | .ok v f c => .ok v f (renL φ c)
theorem Out.ren_pre (φ : Int → Int) (c : List Tr) (o : Out) : (o.pre c).ren φ = (o.ren φ).pre (renL φ c) := by
  cases o with
  | err e => rfl
  | ok v f c' => show Out.ok v f (renL φ (c ++ c')) = _; rw [renL_append]; rfl
theorem Out.ren_bind {φ : Int → Int} {o : Out} {K K' : Vl → Nat → Out} (hK : ∀ v f, K' v f = (K v f).ren φ) : (o.ren φ).bind K' = (o.bind K).ren φ := by
  cases o with
  | err e => rfl
  | ok v f c => show (K' v f).pre _ = ((K v f).pre c).ren φ; rw [Out.ren_pre, hK]
theorem OutL.ren_bind {φ : Int → Int} {o : OutL} {K K' : List Vl → Nat → Out} (hK : ∀ v f, K' v f = (K v f).ren φ) : (o.ren φ).bind K' = (o.bind K).ren φ := by
  cases o with
  | err e => rfl
  | ok v f c => show (K' v f).pre _ = ((K v f).pre c).ren φ; rw [Out.ren_pre, hK]
theorem evL_ren {φ : Int → Int} {E E' : Nd → Nat → Out} : ∀ (l : List Nd), (∀ x ∈ l, ∀ f, E' x f = (E x f).ren φ) → ∀ f : Nat, evL E' l f = (evL E l f).ren φ
  | [], _, f => by rw [evL, evL]; rfl
  | x :: r, hE, f => by
    rw [evL, evL, hE x (by simp) f]
    cases h : E x f with
    | err e => rfl
    | ok v f1 c1 =>
      dsimp only [Out.ren]
      rw [evL_ren r (fun y hy => hE y (by simp [hy])) f1]
      cases h' : evL E r f1 with
      | err e => rfl
      | ok vs f2 c2 => dsimp only [OutL.ren]; rw [renL_append]
/-- The functions of lib lie in lib' too, under the numbers φ. -/
structure Ren (φ : Int → Int) (lib lib' : List Fn1) : Prop where
  find : ∀ s, 0 ≤ findF lib s 0 → findF lib' s 0 = φ (findF lib s 0) ∧ lib'[(findF lib' s 0).toNat]? = lib[(findF lib s 0).toNat]?
  ar : ∀ (i : Nat) (f : Fn1), lib[i]? = some f → arT lib f.body = true
theorem enter_ren {φ : Int → Int} {lib lib' : List Fn1} (R : Ren φ lib lib') {E E' : Nat → (ByteArray → Option Vl) → Nd → Nat → Out} (hE : ∀ a env x f, arT lib x = true → E' a env x f = (E a env x f).ren φ) (act : Nat) (i j : Int) (hi : j = φ i ∧ lib'[j.toNat]? = lib[i.toNat]?) (args : List Vl) (f : Nat) : (enter lib' E' act j args f).out = (enter lib E act i args f).out.ren φ := by
  unfold enter
  by_cases h30 : 30 ≤ act
  · rw [if_pos h30, if_pos h30]; rfl
  rw [if_neg h30, if_neg h30, hi.2]
  cases hl : lib[i.toNat]? with
  | none => rfl
  | some fn =>
    dsimp only
    rw [hE (act + 1) _ fn.body f (R.ar _ fn hl)]
    cases h : E (act + 1) (envV fn.params args fun _ => none) fn.body f with
    | err e => rfl
    | ok y f1 c =>
      show Out.ok (cln y) f1 [Tr.mk j (args.map cln) (cln y) (renL φ c)] = Out.ok (cln y) f1 (renL φ [Tr.mk i (args.map cln) (cln y) c])
      rw [renL, renL, renT, hi.1]
theorem opO_ren (φ : Int → Int) (ap : Int → Int → Int → Int × Int) (x : Nd) (l : List Vl) (f : Nat) : opO ap x l f = (opO ap x l f).ren φ := by
  unfold opO
  split
  · show _ = Out.ok _ _ (renL φ []); rw [renL]
  · rfl
theorem arT_kidN {lib : List Fn1} {x : Nd} (h : arT lib x = true) (k : Nat) : arT lib (kidN x k) = true := by
  rw [arT_eq] at h
  have h2 : arTL lib x.kids = true := (Bool.and_eq_true_iff.1 h).2
  unfold kidN
  cases hk : x.kids[k]? with
  | none => rw [Option.getD_none, arT, arTL]; rfl
  | some y => exact arTL_kid h2 hk
theorem ev_ren (ap : Int → Int → Int → Int × Int) {φ : Int → Int} {lib lib' : List Fn1} (R : Ren φ lib lib') : ∀ (d act : Nat) (env : ByteArray → Option Vl) (x : Nd) (f : Nat), arT lib x = true → ev ap lib' d act env x f = (ev ap lib d act env x f).ren φ
  | 0, _, _, _, _, _ => rfl
  | d + 1, act, env, x, f, h => by
    have ih := ev_ren ap R d
    rw [ev, ev]
    split
    · rfl
    split
    · show _ = Out.ok _ _ (renL φ []); rw [renL]
    split
    · show _ = Out.ok _ _ (renL φ []); rw [renL]
    split
    · rw [ih _ _ _ _ (arT_kidN h 0)]
      exact Out.ren_bind fun v g => ih _ _ _ _ (arT_kidN h _)
    split
    · rw [ih _ _ _ _ (arT_kidN h 0)]
      exact Out.ren_bind fun v g => ih _ _ _ _ (arT_kidN h _)
    · have h' := h
      rw [arT_eq] at h'
      obtain ⟨h1, h2⟩ := Bool.and_eq_true_iff.1 h'
      rw [evL_ren (φ := φ) (E := ev ap lib d act env) x.kids (fun y hy g => by
        obtain ⟨k, hk, e⟩ := List.mem_iff_getElem.1 hy
        exact ih _ _ _ _ (arTL_kid h2 (k := k) (by rw [List.getElem?_eq_getElem hk, e])))]
      refine OutL.ren_bind fun v g => ?_
      by_cases h85 : x.kind = 85
      · rw [if_pos h85, if_pos h85]
        rw [if_pos h85] at h1
        exact enter_ren R ih _ _ _ (R.find x.name (of_decide_eq_true (Bool.and_eq_true_iff.1 h1).1)) _ _
      · rw [if_neg h85, if_neg h85]; exact opO_ren _ _ _ _ _

mutual
theorem highT_ren (φ : Int → Int) : ∀ t : Tr, highT (renT φ t) = highT t
  | .mk f a r c => by rw [renT, highT, highT, highL_ren φ c]
theorem highL_ren (φ : Int → Int) : ∀ c : List Tr, highL (renL φ c) = highL c
  | [] => by rw [renL]
  | t :: r => by rw [renL, highL, highL, highT_ren φ t, highL_ren φ r]
end

end Go.Proofs.YtcoeakdpcigogaaDoor

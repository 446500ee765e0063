/-
  Call trees: the number of calls and the height (plain).
-/
import Derived.Test.YtgokgcnalgpiiaaFevFuel
namespace Go.Proofs.Ytgokgcnalgpiiaa

mutual
def stepsT : Tr → Nat
  | .mk _ _ _ c => 1 + stepsL c
def stepsL : List Tr → Nat
  | [] => 0
  | t :: r => stepsT t + stepsL r
end
mutual
def highT : Tr → Nat
  | .mk _ _ _ c => highL c + 1
def highL : List Tr → Nat
  | [] => 0
  | t :: r => max (highT t) (highL r)
end
theorem stepsL_append : ∀ c c' : List Tr, stepsL (c ++ c') = stepsL c + stepsL c'
  | [], c' => by rw [List.nil_append, stepsL]; omega
  | t :: r, c' => by rw [List.cons_append, stepsL, stepsL, stepsL_append r c']; omega
theorem highL_append : ∀ c c' : List Tr, highL (c ++ c') = max (highL c) (highL c')
  | [], c' => by rw [List.nil_append, highL]; omega
  | t :: r, c' => by rw [List.cons_append, highL, highL, highL_append r c']; omega

/-! ### Every call costs -/
def Out.cost (n : Nat) : Out → Prop
  | .err _ => True
  | .ok _ f c => f + stepsL c ≤ n
def OutL.cost (n : Nat) : OutL → Prop
  | .err _ => True
  | .ok _ f c => f + stepsL c ≤ n
theorem Out.cost_mono {n m : Nat} (h : n ≤ m) {o : Out} (ho : o.cost n) : o.cost m := by
  cases o
  · trivial
  · exact Nat.le_trans (show _ ≤ n from ho) h
theorem Out.pre_cost {n f : Nat} {c : List Tr} {o : Out} (ho : o.cost f) (h : f + stepsL c ≤ n) : (o.pre c).cost n := by
  cases o with
  | err e => trivial
  | ok v g c' =>
    have : g + stepsL c' ≤ f := ho
    show g + stepsL (c ++ c') ≤ n
    rw [stepsL_append]; omega
theorem Out.bind_cost {n : Nat} {o : Out} {k : Vl → Nat → Out} (ho : o.cost n) (hk : ∀ v f, (k v f).cost f) : (o.bind k).cost n := by
  cases o with
  | err e => trivial
  | ok v f c => exact Out.pre_cost (hk v f) ho
theorem OutL.bind_cost {n : Nat} {o : OutL} {k : List Vl → Nat → Out} (ho : o.cost n) (hk : ∀ v f, (k v f).cost f) : (o.bind k).cost n := by
  cases o with
  | err e => trivial
  | ok v f c => exact Out.pre_cost (hk v f) ho
theorem evL_cost {E : Nd → Nat → Out} (hE : ∀ x f, (E x f).cost f) : ∀ (l : List Nd) (f : Nat), (evL E l f).cost f
  | [], f => Nat.le_refl f
  | x :: r, f => by
    rw [evL]
    have h1 := hE x f
    cases h : E x f with
    | err e => trivial
    | ok v f1 c1 =>
      rw [h] at h1
      have h1 : f1 + stepsL c1 ≤ f := h1
      have h2 := evL_cost hE r f1
      dsimp only
      cases h' : evL E r f1 with
      | err e => trivial
      | ok vs f2 c2 =>
        rw [h'] at h2
        have h2 : f2 + stepsL c2 ≤ f1 := h2
        show f2 + stepsL (c1 ++ c2) ≤ f
        rw [stepsL_append]; omega
theorem opO_cost (ap : Int → Int → Int → Int × Int) (x : Nd) (l : List Vl) (f : Nat) : (opO ap x l f).cost f := by
  unfold opO
  split
  · exact Nat.le_refl f
  · trivial
/-- One evaluation costs one more than what its calls cost. -/
def Out.costS (n : Nat) : Out → Prop
  | .err _ => True
  | .ok _ f c => f + stepsL c + 1 ≤ n
theorem Out.cost_S {n : Nat} {o : Out} (h : o.costS n) : o.cost n := by
  cases o
  · trivial
  · exact Nat.le_of_succ_le (show _ + 1 ≤ n from h)
theorem Out.costS_of {n : Nat} (h0 : n ≠ 0) {o : Out} (h : o.cost (n - 1)) : o.costS n := by
  cases o with
  | err e => trivial
  | ok v f c =>
    have : f + stepsL c ≤ n - 1 := h
    show f + stepsL c + 1 ≤ n
    omega
theorem enter_cost {lib : List Fn1} {E : Nat → (ByteArray → Option Vl) → Nd → Nat → Out} (hE : ∀ a env x f, (E a env x f).costS f) (act : Nat) (i : Int) (args : List Vl) (f : Nat) : (enter lib E act i args f).out.cost f := by
  unfold enter
  split
  · trivial
  split
  · trivial
  rename_i fn _
  have h1 := hE (act + 1) (envV fn.params args fun _ => none) fn.body f
  cases h : E (act + 1) (envV fn.params args fun _ => none) fn.body f with
  | err e => trivial
  | ok y f1 c =>
    rw [h] at h1
    have h1 : f1 + stepsL c + 1 ≤ f := h1
    show f1 + stepsL [Tr.mk i (args.map cln) (cln y) c] ≤ f
    rw [stepsL, stepsL, stepsT]; omega
theorem ev_cost (ap : Int → Int → Int → Int × Int) (lib : List Fn1) : ∀ (d act : Nat) (env : ByteArray → Option Vl) (x : Nd) (f : Nat), (ev ap lib d act env x f).costS f
  | 0, _, _, _, _ => trivial
  | d + 1, act, env, x, f => by
    have ih := ev_cost ap lib d
    have ih' : ∀ a env x f, (ev ap lib d a env x f).cost f := fun a env x f => Out.cost_S (ih a env x f)
    rw [ev]
    split
    · trivial
    rename_i h0
    refine Out.costS_of h0 ?_
    split
    · exact Nat.le_refl _
    split
    · exact Nat.le_refl _
    split
    · exact Out.bind_cost (ih' _ _ _ _) fun v g => ih' _ _ _ _
    split
    · exact Out.bind_cost (ih' _ _ _ _) fun v g => ih' _ _ _ _
    · refine OutL.bind_cost (evL_cost (ih' _ _) _ _) fun v g => ?_
      split
      · exact enter_cost ih _ _ _ _
      · exact opO_cost _ _ _ _

/-! ### One level deeper -/
def Out.hi (n : Nat) (o : Out) : Prop := ∀ v f c, o = .ok v f c → highL c ≤ n
def Out.dp (act : Nat) (o o1 : Out) : Prop := o.hi (30 - act) ∧ ((o1 = o ∧ o.hi (30 - (act + 1))) ∨ (o1 = .err 19 ∧ ∀ v f c, o = .ok v f c → highL c = 30 - act))
def OutL.hi (n : Nat) (o : OutL) : Prop := ∀ v f c, o = .ok v f c → highL c ≤ n
def OutL.dp (act : Nat) (o o1 : OutL) : Prop := o.hi (30 - act) ∧ ((o1 = o ∧ o.hi (30 - (act + 1))) ∨ (o1 = .err 19 ∧ ∀ v f c, o = .ok v f c → highL c = 30 - act))
theorem Out.dp_err (act : Nat) (e : Int) : Out.dp act (.err e) (.err e) := ⟨(fun _ _ _ h => by cases h), .inl ⟨rfl, (fun _ _ _ h => by cases h)⟩⟩
theorem Out.dp_err' (act : Nat) (e : Int) : Out.dp act (.err e) (.err 19) := ⟨(fun _ _ _ h => by cases h), .inr ⟨rfl, (fun _ _ _ h => by cases h)⟩⟩
theorem Out.dp_ok (act : Nat) (v : Vl) (f : Nat) : Out.dp act (.ok v f []) (.ok v f []) := by
  refine ⟨fun _ _ c h => ?_, .inl ⟨rfl, fun _ _ c h => ?_⟩⟩ <;> cases h <;> rw [highL] <;> omega
theorem OutL.dp_err (act : Nat) (e : Int) : OutL.dp act (.err e) (.err e) := ⟨(fun _ _ _ h => by cases h), .inl ⟨rfl, (fun _ _ _ h => by cases h)⟩⟩
theorem OutL.dp_err' (act : Nat) (e : Int) : OutL.dp act (.err e) (.err 19) := ⟨(fun _ _ _ h => by cases h), .inr ⟨rfl, (fun _ _ _ h => by cases h)⟩⟩
theorem OutL.dp_ok (act : Nat) (v : List Vl) (f : Nat) : OutL.dp act (.ok v f []) (.ok v f []) := by
  refine ⟨fun _ _ c h => ?_, .inl ⟨rfl, fun _ _ c h => ?_⟩⟩ <;> cases h <;> rw [highL] <;> omega
/-- What follows a first part that is the same. -/
theorem Out.dp_pre {act : Nat} {c : List Tr} {o o1 : Out} (h : Out.dp act o o1) (hc : highL c ≤ 30 - (act + 1)) : Out.dp act (o.pre c) (o1.pre c) := by
  obtain ⟨h1, h2⟩ := h
  cases o with
  | err e =>
    rcases h2 with ⟨rfl, _⟩ | ⟨rfl, _⟩
    · exact Out.dp_err act e
    · exact Out.dp_err' act e
  | ok v f c' =>
    have h1 := h1 v f c' rfl
    rcases h2 with ⟨rfl, h3⟩ | ⟨rfl, h3⟩
    · have h3 := h3 v f c' rfl
      refine ⟨fun _ _ c2 h => ?_, .inl ⟨rfl, fun _ _ c2 h => ?_⟩⟩ <;> cases h <;> rw [highL_append] <;> omega
    · have h3 := h3 v f c' rfl
      refine ⟨fun _ _ c2 h => ?_, .inr ⟨rfl, fun _ _ c2 h => ?_⟩⟩ <;> cases h <;> rw [highL_append] <;> omega
/-- What follows a first part that has reached the limit. -/
theorem Out.dp_pre' {act : Nat} {c : List Tr} {o : Out} (h : o.hi (30 - act)) (hc : highL c = 30 - act) : Out.dp act (o.pre c) (.err 19) := by
  cases o with
  | err e => exact Out.dp_err' act e
  | ok v f c' =>
    have h1 := h v f c' rfl
    refine ⟨fun _ _ c2 h => ?_, .inr ⟨rfl, fun _ _ c2 h => ?_⟩⟩ <;> cases h <;> rw [highL_append] <;> omega
theorem Out.dp_bind {act : Nat} {o o1 : Out} {K K1 : Vl → Nat → Out} (h : Out.dp act o o1) (hK : ∀ v f, Out.dp act (K v f) (K1 v f)) : Out.dp act (o.bind K) (o1.bind K1) := by
  obtain ⟨h1, h2⟩ := h
  cases o with
  | err e =>
    rcases h2 with ⟨rfl, _⟩ | ⟨rfl, _⟩
    · exact Out.dp_err act e
    · exact Out.dp_err' act e
  | ok v f c =>
    rcases h2 with ⟨rfl, h3⟩ | ⟨rfl, h3⟩
    · exact Out.dp_pre (hK v f) (h3 v f c rfl)
    · exact Out.dp_pre' (hK v f).1 (h3 v f c rfl)
theorem OutL.dp_bind {act : Nat} {o o1 : OutL} {K K1 : List Vl → Nat → Out} (h : OutL.dp act o o1) (hK : ∀ v f, Out.dp act (K v f) (K1 v f)) : Out.dp act (o.bind K) (o1.bind K1) := by
  obtain ⟨h1, h2⟩ := h
  cases o with
  | err e =>
    rcases h2 with ⟨rfl, _⟩ | ⟨rfl, _⟩
    · exact Out.dp_err act e
    · exact Out.dp_err' act e
  | ok v f c =>
    rcases h2 with ⟨rfl, h3⟩ | ⟨rfl, h3⟩
    · exact Out.dp_pre (hK v f) (h3 v f c rfl)
    · exact Out.dp_pre' (hK v f).1 (h3 v f c rfl)
theorem evL_dp {act : Nat} {E E1 : Nd → Nat → Out} (hE : ∀ x f, Out.dp act (E x f) (E1 x f)) : ∀ (l : List Nd) (f : Nat), OutL.dp act (evL E l f) (evL E1 l f)
  | [], f => OutL.dp_ok act [] f
  | x :: r, f => by
    rw [evL, evL]
    obtain ⟨h1, h2⟩ := hE x f
    cases h : E x f with
    | err e =>
      rw [h] at h2
      rcases h2 with ⟨h2, _⟩ | ⟨h2, _⟩
      · rw [h2]; exact OutL.dp_err act e
      · rw [h2]; exact OutL.dp_err' act e
    | ok v f1 c1 =>
      have h1 := h1 v f1 c1 h
      rw [h] at h2
      obtain ⟨k1, k2⟩ := evL_dp hE r f1
      rcases h2 with ⟨h2, h3⟩ | ⟨h2, h3⟩
      · rw [h2]
        have h3 := h3 v f1 c1 rfl
        dsimp only
        cases h' : evL E r f1 with
        | err e =>
          rw [h'] at k2
          rcases k2 with ⟨k2, _⟩ | ⟨k2, _⟩
          · rw [k2]; exact OutL.dp_err act e
          · rw [k2]; exact OutL.dp_err' act e
        | ok vs f2 c2 =>
          have k1 := k1 vs f2 c2 h'
          rw [h'] at k2
          rcases k2 with ⟨k2, k3⟩ | ⟨k2, k3⟩
          · rw [k2]
            have k3 := k3 vs f2 c2 rfl
            refine ⟨fun _ _ c3 h => ?_, .inl ⟨rfl, fun _ _ c3 h => ?_⟩⟩ <;> cases h <;> rw [highL_append] <;> omega
          · rw [k2]
            have k3 := k3 vs f2 c2 rfl
            refine ⟨fun _ _ c3 h => ?_, .inr ⟨rfl, fun _ _ c3 h => ?_⟩⟩ <;> cases h <;> rw [highL_append] <;> omega
      · rw [h2]
        have h3 := h3 v f1 c1 rfl
        dsimp only
        cases h' : evL E r f1 with
        | err e => exact OutL.dp_err' act e
        | ok vs f2 c2 =>
          have k1 := k1 vs f2 c2 h'
          refine ⟨fun _ _ c3 h => ?_, .inr ⟨rfl, fun _ _ c3 h => ?_⟩⟩ <;> cases h <;> rw [highL_append] <;> omega
theorem enter_dp {lib : List Fn1} {E : Nat → (ByteArray → Option Vl) → Nd → Nat → Out} (hE : ∀ a env x f, Out.dp a (E a env x f) (E (a + 1) env x f)) (act : Nat) (i : Int) (args : List Vl) (f : Nat) : Out.dp act (enter lib E act i args f).out (enter lib E (act + 1) i args f).out := by
  unfold enter
  by_cases h30 : 30 ≤ act
  · rw [if_pos h30, if_pos (by omega)]; exact Out.dp_err act 19
  rw [if_neg h30]
  cases hl : lib[i.toNat]? with
  | none =>
    by_cases h29 : 30 ≤ act + 1
    · rw [if_pos h29]; exact Out.dp_err' act 0
    · rw [if_neg h29]; exact Out.dp_err act 0
  | some fn =>
    obtain ⟨h1, h2⟩ := hE (act + 1) (envV fn.params args fun _ => none) fn.body f
    dsimp only
    cases h : E (act + 1) (envV fn.params args fun _ => none) fn.body f with
    | err e =>
      rw [h] at h2
      by_cases h29 : 30 ≤ act + 1
      · rw [if_pos h29]; exact Out.dp_err' act e
      rw [if_neg h29]
      rcases h2 with ⟨h2, _⟩ | ⟨h2, _⟩
      · rw [h2]; exact Out.dp_err act e
      · rw [h2]; exact Out.dp_err' act e
    | ok y f1 c =>
      have h1 := h1 y f1 c h
      rw [h] at h2
      have hh : highL [Tr.mk i (args.map cln) (cln y) c] = highL c + 1 := by rw [highL, highL, highT]; omega
      by_cases h29 : 30 ≤ act + 1
      · rw [if_pos h29]
        refine ⟨fun _ _ c3 h => ?_, .inr ⟨rfl, fun _ _ c3 h => ?_⟩⟩ <;> cases h <;> rw [hh] <;> omega
      rw [if_neg h29]
      rcases h2 with ⟨h2, h3⟩ | ⟨h2, h3⟩
      · rw [h2]
        have h3 := h3 y f1 c rfl
        refine ⟨fun _ _ c3 h => ?_, .inl ⟨rfl, fun _ _ c3 h => ?_⟩⟩ <;> cases h <;> rw [hh] <;> omega
      · rw [h2]
        have h3 := h3 y f1 c rfl
        refine ⟨fun _ _ c3 h => ?_, .inr ⟨rfl, fun _ _ c3 h => ?_⟩⟩ <;> cases h <;> rw [hh] <;> omega
theorem opO_dp (ap : Int → Int → Int → Int × Int) (x : Nd) (l : List Vl) (f act : Nat) : Out.dp act (opO ap x l f) (opO ap x l f) := by
  unfold opO
  split
  · exact Out.dp_ok _ _ _
  · exact Out.dp_err _ _
/-- One level deeper: the same, or the limit is reached. -/
theorem ev_dp (ap : Int → Int → Int → Int × Int) (lib : List Fn1) : ∀ (d act : Nat) (env : ByteArray → Option Vl) (x : Nd) (f : Nat), Out.dp act (ev ap lib d act env x f) (ev ap lib d (act + 1) env x f)
  | 0, _, _, _, _ => Out.dp_err _ _
  | d + 1, act, env, x, f => by
    have ih := ev_dp ap lib d
    rw [ev, ev]
    split
    · exact Out.dp_err _ _
    split
    · exact Out.dp_ok _ _ _
    split
    · exact Out.dp_ok _ _ _
    split
    · exact Out.dp_bind (ih _ _ _ _) fun v g => ih _ _ _ _
    split
    · exact Out.dp_bind (ih _ _ _ _) fun v g => ih _ _ _ _
    · refine OutL.dp_bind (evL_dp (ih _ _) _ _) fun v g => ?_
      split
      · exact enter_dp ih _ _ _ _
      · exact opO_dp _ _ _ _ _

end Go.Proofs.Ytgokgcnalgpiiaa

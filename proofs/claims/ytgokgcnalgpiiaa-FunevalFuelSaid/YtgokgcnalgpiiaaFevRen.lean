/-
  Another library with the same functions under other numbers (plain).
-/
import Derived.Test.YtgokgcnalgpiiaaFevTree
namespace Go.Proofs.Ytgokgcnalgpiiaa

mutual
def renT (φ : Int → Int) : Tr → Tr
  | .mk f a r c => .mk (φ f) a r (renL φ c)
def renL (φ : Int → Int) : List Tr → List Tr
  | [] => []
  | t :: r => renT φ t :: renL φ r
end
theorem renL_append (φ : Int → Int) : ∀ c c' : List Tr, renL φ (c ++ c') = renL φ c ++ renL φ c'
  | [], c' => by rw [List.nil_append, renL, List.nil_append]
  | t :: r, c' => by rw [List.cons_append, renL, renL, renL_append φ r c', List.cons_append]
mutual
theorem renT_id : ∀ t : Tr, renT (fun i => i) t = t
  | .mk f a r c => by rw [renT, renL_id c]
theorem renL_id : ∀ c : List Tr, renL (fun i => i) c = c
  | [] => by rw [renL]
  | t :: r => by rw [renL, renT_id t, renL_id r]
end
def Out.ren (φ : Int → Int) : Out → Out
  | .err e => .err e
  | .ok v f c => .ok v f (renL φ c)
def OutL.ren (φ : Int → Int) : OutL → OutL
  | .err e => .err e
  | .ok v f c => .ok v f (renL φ c)
theorem Out.ren_pre (φ : Int → Int) (c : List Tr) (o : Out) : (o.pre c).ren φ = (o.ren φ).pre (renL φ c) := by
  cases o with
  | err e => rfl
  | ok v f c' => show Out.ok v f (renL φ (c ++ c')) = _; rw [renL_append]; rfl
theorem Out.ren_bind {φ : Int → Int} {o : Out} {K K' : Vl → Nat → Out} (hK : ∀ v f, K' v f = (K v f).ren φ) : (o.ren φ).bind K' = (o.bind K).ren φ := by
  cases o with
  | err e => rfl
  | ok v f c => show (K' v f).pre _ = ((K v f).pre c).ren φ; rw [Out.ren_pre, hK]
theorem OutL.ren_bind {φ : Int → Int} {o : OutL} {K K' : List Vl → Nat → Out} (hK : ∀ v f, K' v f = (K v f).ren φ) : (o.ren φ).bind K' = (o.bind K).ren φ := by
  cases o with
  | err e => rfl
  | ok v f c => show (K' v f).pre _ = ((K v f).pre c).ren φ; rw [Out.ren_pre, hK]
theorem evL_ren {φ : Int → Int} {E E' : Nd → Nat → Out} : ∀ (l : List Nd), (∀ x ∈ l, ∀ f, E' x f = (E x f).ren φ) → ∀ f : Nat, evL E' l f = (evL E l f).ren φ
  | [], _, f => by rw [evL, evL]; rfl
  | x :: r, hE, f => by
    rw [evL, evL, hE x (by simp) f]
    cases h : E x f with
    | err e => rfl
    | ok v f1 c1 =>
      dsimp only [Out.ren]
      rw [evL_ren r (fun y hy => hE y (by simp [hy])) f1]
      cases h' : evL E r f1 with
      | err e => rfl
      | ok vs f2 c2 => dsimp only [OutL.ren]; rw [renL_append]
/-- The functions of lib lie in lib' too, under the numbers φ. -/
structure Ren (φ : Int → Int) (lib lib' : List Fn1) : Prop where
  find : ∀ s, 0 ≤ findF lib s 0 → findF lib' s 0 = φ (findF lib s 0) ∧ lib'[(findF lib' s 0).toNat]? = lib[(findF lib s 0).toNat]?
  ar : ∀ (i : Nat) (f : Fn1), lib[i]? = some f → arT lib f.body = true
theorem enter_ren {φ : Int → Int} {lib lib' : List Fn1} (R : Ren φ lib lib') {E E' : Nat → (ByteArray → Option Vl) → Nd → Nat → Out} (hE : ∀ a env x f, arT lib x = true → E' a env x f = (E a env x f).ren φ) (act : Nat) (i j : Int) (hi : j = φ i ∧ lib'[j.toNat]? = lib[i.toNat]?) (args : List Vl) (f : Nat) : (enter lib' E' act j args f).out = (enter lib E act i args f).out.ren φ := by
  unfold enter
  by_cases h30 : 30 ≤ act
  · rw [if_pos h30, if_pos h30]; rfl
  rw [if_neg h30, if_neg h30, hi.2]
  cases hl : lib[i.toNat]? with
  | none => rfl
  | some fn =>
    dsimp only
    rw [hE (act + 1) _ fn.body f (R.ar _ fn hl)]
    cases h : E (act + 1) (envV fn.params args fun _ => none) fn.body f with
    | err e => rfl
    | ok y f1 c =>
      show Out.ok (cln y) f1 [Tr.mk j (args.map cln) (cln y) (renL φ c)] = Out.ok (cln y) f1 (renL φ [Tr.mk i (args.map cln) (cln y) c])
      rw [renL, renL, renT, hi.1]
theorem opO_ren (φ : Int → Int) (ap : Int → Int → Int → Int × Int) (x : Nd) (l : List Vl) (f : Nat) : opO ap x l f = (opO ap x l f).ren φ := by
  unfold opO
  split
  · show _ = Out.ok _ _ (renL φ []); rw [renL]
  · rfl
theorem arT_kidN {lib : List Fn1} {x : Nd} (h : arT lib x = true) (k : Nat) : arT lib (kidN x k) = true := by
  rw [arT_eq] at h
  have h2 : arTL lib x.kids = true := (Bool.and_eq_true_iff.1 h).2
  unfold kidN
  cases hk : x.kids[k]? with
  | none => rw [Option.getD_none, arT, arTL]; rfl
  | some y => exact arTL_kid h2 hk
theorem ev_ren (ap : Int → Int → Int → Int × Int) {φ : Int → Int} {lib lib' : List Fn1} (R : Ren φ lib lib') : ∀ (d act : Nat) (env : ByteArray → Option Vl) (x : Nd) (f : Nat), arT lib x = true → ev ap lib' d act env x f = (ev ap lib d act env x f).ren φ
  | 0, _, _, _, _, _ => rfl
  | d + 1, act, env, x, f, h => by
    have ih := ev_ren ap R d
    rw [ev, ev]
    split
    · rfl
    split
    · show _ = Out.ok _ _ (renL φ []); rw [renL]
    split
    · show _ = Out.ok _ _ (renL φ []); rw [renL]
    split
    · rw [ih _ _ _ _ (arT_kidN h 0)]
      exact Out.ren_bind fun v g => ih _ _ _ _ (arT_kidN h _)
    split
    · rw [ih _ _ _ _ (arT_kidN h 0)]
      exact Out.ren_bind fun v g => ih _ _ _ _ (arT_kidN h _)
    · have h' := h
      rw [arT_eq] at h'
      obtain ⟨h1, h2⟩ := Bool.and_eq_true_iff.1 h'
      rw [evL_ren (φ := φ) (E := ev ap lib d act env) x.kids (fun y hy g => by
        obtain ⟨k, hk, e⟩ := List.mem_iff_getElem.1 hy
        exact ih _ _ _ _ (arTL_kid h2 (k := k) (by rw [List.getElem?_eq_getElem hk, e])))]
      refine OutL.ren_bind fun v g => ?_
      by_cases h85 : x.kind = 85
      · rw [if_pos h85, if_pos h85]
        rw [if_pos h85] at h1
        exact enter_ren R ih _ _ _ (R.find x.name (of_decide_eq_true (Bool.and_eq_true_iff.1 h1).1)) _ _
      · rw [if_neg h85, if_neg h85]; exact opO_ren _ _ _ _ _

mutual
theorem highT_ren (φ : Int → Int) : ∀ t : Tr, highT (renT φ t) = highT t
  | .mk f a r c => by rw [renT, highT, highT, highL_ren φ c]
theorem highL_ren (φ : Int → Int) : ∀ c : List Tr, highL (renL φ c) = highL c
  | [] => by rw [renL]
  | t :: r => by rw [renL, highL, highL, highT_ren φ t, highL_ren φ r]
end

end Go.Proofs.Ytgokgcnalgpiiaa

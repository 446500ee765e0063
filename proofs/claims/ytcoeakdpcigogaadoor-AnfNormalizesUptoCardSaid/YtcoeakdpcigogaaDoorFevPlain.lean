/-
  The evaluator, plainly: fuel is passed along; a bound on the depth of the recursion comes first.
-/
import Derived.Test.YtcoeakdpcigogaaDoorFunVld
import Derived.Test.YtcoeakdpcigogaaDoorFunEq
namespace Go.Proofs.YtcoeakdpcigogaaDoor

inductive Tr where
  | mk (f : Int) (args : List Vl) (res : Vl) (calls : List Tr)
def Tr.func : Tr → Int | .mk f _ _ _ => f
def Tr.args : Tr → List Vl | .mk _ a _ _ => a
def Tr.res : Tr → Vl | .mk _ _ r _ => r
def Tr.calls : Tr → List Tr | .mk _ _ _ c => c
def zeroV : Vl := ⟨false, 0, []⟩
/-- A copy without the field of the other type. -/
def cln (x : Vl) : Vl := if x.list = true then ⟨true, 0, x.l⟩ else ⟨false, x.n, []⟩

inductive Out where
  | err (e : Int)
  | ok (v : Vl) (fuel : Nat) (calls : List Tr)
inductive OutL where
  | err (e : Int)
  | ok (vs : List Vl) (fuel : Nat) (calls : List Tr)
inductive OutT where
  | err (e : Int)
  | ok (t : Tr) (fuel : Nat)
def Out.pre (c : List Tr) : Out → Out
  | .err e => .err e
  | .ok v f c' => .ok v f (c ++ c')
def Out.bind (o : Out) (k : Vl → Nat → Out) : Out :=
  match o with
  | .err e => .err e
  | .ok v f c => (k v f).pre c
def OutL.bind (o : OutL) (k : List Vl → Nat → Out) : Out :=
  match o with
  | .err e => .err e
  | .ok v f c => (k v f).pre c
def OutT.out : OutT → Out
  | .err e => .err e
  | .ok t f => .ok t.res f [t]
def Out.add (k : Nat) : Out → Out
  | .err e => .err e
  | .ok v f c => .ok v (f + k) c
def OutL.add (k : Nat) : OutL → OutL
  | .err e => .err e
  | .ok v f c => .ok v (f + k) c

def setV (env : ByteArray → Option Vl) (s : ByteArray) (v : Vl) : ByteArray → Option Vl := fun t => if t = s then some v else env t
def envV : List Pm → List Vl → (ByteArray → Option Vl) → ByteArray → Option Vl
  | p :: ps, v :: vs, env => envV ps vs (setV env p.name v)
  | _, _, env => env

/-- An operation on the values of its operands. -/
def opR (ap : Int → Int → Int → Int × Int) (kind : Nat) (num : Int) (l : List Vl) : Vl × Int :=
  if kind = 82 then (⟨false, (ap num ((l[0]?).getD zeroV).n ((l[1]?).getD zeroV).n).1, []⟩, (ap num ((l[0]?).getD zeroV).n ((l[1]?).getD zeroV).n).2)
  else if kind = 87 then (if 1000 ≤ ((l[1]?).getD zeroV).l.length then (zeroV, 5) else (⟨true, 0, ((l[0]?).getD zeroV).n :: ((l[1]?).getD zeroV).l⟩, 0))
  else if kind = 88 then (match ((l[0]?).getD zeroV).l with | [] => (zeroV, 13) | y :: _ => (⟨false, y, []⟩, 0))
  else if kind = 89 then (match ((l[0]?).getD zeroV).l with | [] => (zeroV, 13) | _ :: r => (⟨true, 0, r⟩, 0))
  else if kind = 90 then (match ((l[0]?).getD zeroV).l with | [] => (⟨false, 1, []⟩, 0) | _ :: _ => (zeroV, 0))
  else (⟨true, 0, []⟩, 0)
def opO (ap : Int → Int → Int → Int × Int) (x : Nd) (l : List Vl) (fuel : Nat) : Out :=
  if (opR ap x.kind x.num l).2 = 0 then .ok (opR ap x.kind x.num l).1 fuel [] else .err (opR ap x.kind x.num l).2

def evL (E : Nd → Nat → Out) : List Nd → Nat → OutL
  | [], f => .ok [] f []
  | x :: r, f =>
    match E x f with
    | .err e => .err e
    | .ok v f1 c1 =>
      match evL E r f1 with
      | .err e => .err e
      | .ok vs f2 c2 => .ok (v :: vs) f2 (c1 ++ c2)
def enter (lib : List Fn1) (E : Nat → (ByteArray → Option Vl) → Nd → Nat → Out) (act : Nat) (f : Int) (args : List Vl) (fuel : Nat) : OutT :=
  if 30 ≤ act then .err 19 else
  match lib[f.toNat]? with
  | none => .err 0
  | some fn =>
    match E (act + 1) (envV fn.params args fun _ => none) fn.body fuel with
    | .err e => .err e
    | .ok y f1 c => .ok (.mk f (args.map cln) (cln y) c) f1
def kidN (x : Nd) (k : Nat) : Nd := (x.kids[k]?).getD (.mk 0 0 ⟨#[]⟩ [])
def ev (ap : Int → Int → Int → Int × Int) (lib : List Fn1) : Nat → Nat → (ByteArray → Option Vl) → Nd → Nat → Out
  | 0, _, _, _, _ => .err 18
  | d + 1, act, env, x, fuel =>
    if fuel = 0 then .err 18
    else if x.kind = 80 then .ok ⟨false, x.num, []⟩ (fuel - 1) []
    else if x.kind = 81 then .ok ((env x.name).getD zeroV) (fuel - 1) []
    else if x.kind = 83 then (ev ap lib d act env (kidN x 0) (fuel - 1)).bind fun t f1 => ev ap lib d act env (kidN x (if t.n ≠ 0 then 1 else 2)) f1
    else if x.kind = 84 then (ev ap lib d act env (kidN x 0) (fuel - 1)).bind fun t f1 => ev ap lib d act (setV env x.name t) (kidN x 1) f1
    else (evL (ev ap lib d act env) x.kids (fuel - 1)).bind fun vs f1 =>
      if x.kind = 85 then (enter lib (ev ap lib d) act (findF lib x.name 0) vs f1).out else opO ap x vs f1

/-! ### Fuel -/
/-- What is left is less. -/
def Out.le (n : Nat) : Out → Prop
  | .err _ => True
  | .ok _ f _ => f ≤ n
def OutL.le (n : Nat) : OutL → Prop
  | .err _ => True
  | .ok _ f _ => f ≤ n
theorem Out.le_mono {n m : Nat} (h : n ≤ m) {o : Out} (ho : o.le n) : o.le m := by
  cases o
  · trivial
  · exact Nat.le_trans (show _ ≤ n from ho) h
theorem Out.pre_le {n : Nat} {c : List Tr} {o : Out} (ho : o.le n) : (o.pre c).le n := by cases o <;> exact ho
theorem Out.bind_le {n : Nat} {o : Out} {k : Vl → Nat → Out} (ho : o.le n) (hk : ∀ v f, f ≤ n → (k v f).le n) : (o.bind k).le n := by
  cases o with
  | err e => trivial
  | ok v f c => exact Out.pre_le (hk v f ho)
theorem OutL.bind_le {n : Nat} {o : OutL} {k : List Vl → Nat → Out} (ho : o.le n) (hk : ∀ v f, f ≤ n → (k v f).le n) : (o.bind k).le n := by
  cases o with
  | err e => trivial
  | ok v f c => exact Out.pre_le (hk v f ho)
theorem evL_le {E : Nd → Nat → Out} (hE : ∀ x f, (E x f).le f) : ∀ (l : List Nd) (f : Nat), (evL E l f).le f
  | [], f => Nat.le_refl f
  | x :: r, f => by
    rw [evL]
    have h1 := hE x f
    cases h : E x f with
    | err e => trivial
    | ok v f1 c1 =>
      rw [h] at h1
      have h2 := evL_le hE r f1
      dsimp only
      cases h' : evL E r f1 with
      | err e => trivial
      | ok vs f2 c2 =>
        rw [h'] at h2
        exact Nat.le_trans (show f2 ≤ f1 from h2) h1
theorem enter_le {lib : List Fn1} {E : Nat → (ByteArray → Option Vl) → Nd → Nat → Out} (hE : ∀ a env x f, (E a env x f).le f) (act : Nat) (i : Int) (args : List Vl) (f : Nat) : (enter lib E act i args f).out.le f := by
  unfold enter
  split
  · trivial
  split
  · trivial
  rename_i fn _
  have h1 := hE (act + 1) (envV fn.params args fun _ => none) fn.body f
  cases h : E (act + 1) (envV fn.params args fun _ => none) fn.body f with
  | err e => trivial
  | ok y f1 c => rw [h] at h1; exact h1
theorem opO_le (ap : Int → Int → Int → Int × Int) (x : Nd) (l : List Vl) (f : Nat) : (opO ap x l f).le f := by
  unfold opO
  split
  · exact Nat.le_refl f
  · trivial
theorem ev_le (ap : Int → Int → Int → Int × Int) (lib : List Fn1) : ∀ (d act : Nat) (env : ByteArray → Option Vl) (x : Nd) (f : Nat), (ev ap lib d act env x f).le (f - 1)
  | 0, _, _, _, _ => trivial
  | d + 1, act, env, x, f => by
    have ih : ∀ a env x f, (ev ap lib d a env x f).le f := fun a env x f => Out.le_mono (Nat.sub_le _ _) (ev_le ap lib d a env x f)
    rw [ev]
    split
    · trivial
    split
    · exact Nat.le_refl _
    split
    · exact Nat.le_refl _
    split
    · exact Out.bind_le (ih _ _ _ _) fun v g hg => Out.le_mono hg (ih _ _ _ _)
    split
    · exact Out.bind_le (ih _ _ _ _) fun v g hg => Out.le_mono hg (ih _ _ _ _)
    · refine OutL.bind_le (evL_le (ih _ _) _ _) fun v g hg => ?_
      split
      · exact Out.le_mono hg (enter_le ih _ _ _ _)
      · exact Out.le_mono hg (opO_le _ _ _ _)

end Go.Proofs.YtcoeakdpcigogaaDoor

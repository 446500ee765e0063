/-
  Every subtree of a call tree is the call tree of its own call (plain).
-/
import Derived.Test.YtgokgcnalgpiiaaFevType
namespace Go.Proofs.Ytgokgcnalgpiiaa

theorem cln_cln (x : Vl) : cln (cln x) = cln x := by
  unfold cln
  by_cases h : x.list = true
  · rw [if_pos h]; simp
  · rw [if_neg h]; simp
theorem VR.self {ty : Bool} {a b : Vl} (h : VR ty a b) : VR ty a a := ⟨h.a1, h.a1, fun e => ⟨rfl, (h.l e).2⟩, fun _ => rfl⟩
theorem vr_toCln {ty : Bool} {a : Vl} (h : VR ty a a) : VR ty a (cln a) := by
  unfold cln
  rw [h.a1]
  cases ty with
  | true => rw [if_pos rfl]; exact ⟨h.a1, rfl, fun _ => ⟨rfl, (h.l rfl).2⟩, fun e => (by cases e)⟩
  | false => rw [if_neg (by simp)]; exact ⟨h.a1, rfl, fun e => (by cases e), fun _ => rfl⟩
theorem VRs.toCln {ts : List Bool} {us vs : List Vl} (h : VRs ts us vs) : VRs ts us (us.map cln) := by
  induction h with
  | nil => exact .nil
  | cons h _ ih => exact .cons (vr_toCln h.self) ih
theorem VRs.clnSelf {ts : List Bool} {us vs : List Vl} (h : VRs ts us vs) : VRs ts (us.map cln) (us.map cln) := by
  induction h with
  | nil => exact .nil
  | cons h _ ih => exact .cons h.self.clnR ih
/-- What ends at some depth ends alike at depth 0. -/
theorem ev_zero (ap : Int → Int → Int → Int × Int) (lib : List Fn1) (d : Nat) (env : ByteArray → Option Vl) (x : Nd) (f : Nat) {v : Vl} {g : Nat} {c : List Tr} : ∀ (act : Nat), ev ap lib d act env x f = .ok v g c → ∀ a, a ≤ act → ev ap lib d a env x f = .ok v g c
  | 0, h, a, ha => by rw [Nat.le_zero.1 ha]; exact h
  | act + 1, h, a, ha => by
    by_cases e : a = act + 1
    · rw [e]; exact h
    rcases (ev_dp ap lib d act env x f).2 with ⟨h1, _⟩ | ⟨h1, _⟩
    · exact ev_zero ap lib d env x f act (by rw [← h1]; exact h) a (by omega)
    · rw [h] at h1; cases h1
mutual
def goodT (ap : Int → Int → Int → Int × Int) (lib : List Fn1) : Tr → Prop
  | .mk f a r c => (∃ left, enter lib (ev ap lib 2000) 0 f a 2000 = .ok (.mk f a r c) left) ∧ (0 ≤ f ∧ ∃ fn, lib[f.toNat]? = some fn ∧ VRs (fn.params.map Pm.list) a a) ∧ goodL ap lib c
def goodL (ap : Int → Int → Int → Int × Int) (lib : List Fn1) : List Tr → Prop
  | [] => True
  | t :: r => goodT ap lib t ∧ goodL ap lib r
end
theorem goodL_append {ap : Int → Int → Int → Int × Int} {lib : List Fn1} : ∀ {c c' : List Tr}, goodL ap lib c → goodL ap lib c' → goodL ap lib (c ++ c')
  | [], _, _, h => h
  | t :: r, c', h, h' => by
    rw [goodL] at h
    rw [List.cons_append, goodL]
    exact ⟨h.1, goodL_append h.2 h'⟩
theorem enter_good (ap : Int → Int → Int → Int × Int) {lib : List Fn1} (L : LibOk lib) {d act : Nat} {i : Int} {fn : Fn1} (hi : lib[i.toNat]? = some fn) (hi0 : 0 ≤ i) {us : List Vl} (h : VRs (fn.params.map Pm.list) us us) {f : Nat} (hf : f ≤ 2000) {t : Tr} {g : Nat} (he : enter lib (ev ap lib d) act i us f = .ok t g)
    (hg : ∀ v g c, ev ap lib d (act + 1) (envV fn.params us fun _ => none) fn.body f = .ok v g c → goodL ap lib c) : goodT ap lib t := by
  unfold enter at he
  by_cases h30 : 30 ≤ act
  · rw [if_pos h30] at he; cases he
  rw [if_neg h30, hi] at he
  dsimp only at he
  cases h1 : ev ap lib d (act + 1) (envV fn.params us fun _ => none) fn.body f with
  | err e => rw [h1] at he; cases he
  | ok y f1 c =>
    rw [h1] at he
    have hc := hg y f1 c h1
    injection he with he1 he2
    subst he1
    rw [goodT]
    refine ⟨?_, ⟨hi0, fn, hi, h.clnSelf⟩, hc⟩
    have h2 := ev_zero ap lib d _ _ _ _ h1 1 (by omega)
    rcases ev_sh ap lib (2000 - f) d 2000 1 (envV fn.params us fun _ => none) fn.body f (by omega) with h3 | h3
    · rw [h2] at h3; cases h3
    rw [h2, show f + (2000 - f) = 2000 by omega] at h3
    rcases ev_vr ap L 2000 1 (envF fn.params) _ _ fn.body 2000 fn.list (L.form _ _ hi) (L.chk _ _ hi) (envF_er h.toCln) with ⟨e, k1, k2⟩ | ⟨a, b, f2, c2, k1, k2, hv⟩
    · rw [h3] at k1; cases k1
    · rw [h3] at k1
      injection k1 with k3 k4 k5
      subst k3; subst k4; subst k5
      refine ⟨f1 + (2000 - f), ?_⟩
      unfold enter
      rw [if_neg (by omega), hi]
      dsimp only
      rw [k2]
      dsimp only
      rw [hv.cln, List.map_map]
      congr 2
      exact List.map_congr_left fun a _ => cln_cln a

end Go.Proofs.Ytgokgcnalgpiiaa

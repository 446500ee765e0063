/-
  Well typed expressions: related environments, related outcomes (plain).
-/
import Derived.Test.YtgokgcnalgpiiaaFevSound
namespace Go.Proofs.Ytgokgcnalgpiiaa

/-- Every function of the library is well formed and has the declared type. -/
structure LibOk (lib : List Fn1) : Prop where
  form : ∀ (i : Nat) (f : Fn1), lib[i]? = some f → formT f.body = true
  chk : ∀ (i : Nat) (f : Fn1), lib[i]? = some f → chkT lib f.body (envF f.params) = (f.list, 0)
theorem LibOk.of {lib : List Fn1} (h : (validR lib).2 = 0) : LibOk lib :=
  ⟨fun _ _ hf => (one_facts (valid_facts h hf)).2.2.2.2.1, fun _ _ hf => (one_facts (valid_facts h hf)).2.2.2.2.2.2.2⟩
theorem enter_vr {lib : List Fn1} (L : LibOk lib) {E E' : Nat → (ByteArray → Option Vl) → Nd → Nat → Out} (hE : ∀ a te e e' x f ty, formT x = true → chkT lib x te = (ty, 0) → ER te e e' → Out.vr ty (E a e x f) (E' a e' x f)) (act : Nat) (i : Int) {fn : Fn1} (hi : lib[i.toNat]? = some fn) {us vs : List Vl} (h : VRs (fn.params.map Pm.list) us vs) (f : Nat) : Out.vr fn.list (enter lib E act i us f).out (enter lib E' act i vs f).out := by
  unfold enter
  by_cases h30 : 30 ≤ act
  · rw [if_pos h30, if_pos h30]; exact Out.vr_err _ _
  rw [if_neg h30, if_neg h30, hi]
  dsimp only
  rcases hE (act + 1) (envF fn.params) _ _ fn.body f fn.list (L.form _ _ hi) (L.chk _ _ hi) (envF_er h) with ⟨e, h1, h2⟩ | ⟨a, b, f1, c, h1, h2, hv⟩
  · rw [h1, h2]; exact Out.vr_err _ _
  · rw [h1, h2]
    dsimp only
    rw [h.map_cln, hv.cln]
    have hc := hv.clnR
    rw [hv.cln] at hc
    exact Out.vr_ok hc _ _
theorem three {l : List Nd} (h : l.length = 3) : ∃ a b c, l = [a, b, c] := by
  match l, h with
  | [a, b, c], _ => exact ⟨a, b, c, rfl⟩
theorem two {l : List Nd} (h : l.length = 2) : ∃ a b, l = [a, b] := by
  match l, h with
  | [a, b], _ => exact ⟨a, b, rfl⟩
theorem ev_vr (ap : Int → Int → Int → Int × Int) {lib : List Fn1} (L : LibOk lib) : ∀ (d act : Nat) (te : ByteArray → Option Bool) (env env' : ByteArray → Option Vl) (x : Nd) (f : Nat) (ty : Bool), formT x = true → chkT lib x te = (ty, 0) → ER te env env' → Out.vr ty (ev ap lib d act env x f) (ev ap lib d act env' x f)
  | 0, _, _, _, _, _, _, _, _, _, _ => Out.vr_err _ _
  | d + 1, act, te, env, env', x, f, ty, hf, hc, he => by
    have ih := ev_vr ap L d
    rw [formT_eq] at hf
    obtain ⟨hb, hkids⟩ := Bool.and_eq_true_iff.1 hf
    have hkid := formT_kid hkids
    obtain ⟨l82, l83, l84, hk⟩ := form_len hb
    obtain ⟨c1, c2, c3, c4⟩ := chkT_ok hc
    rw [ev, ev]
    by_cases h0 : f = 0
    · rw [if_pos h0, if_pos h0]; exact Out.vr_err _ _
    rw [if_neg h0, if_neg h0]
    by_cases h80 : x.kind = 80
    · rw [if_pos h80, if_pos h80]
      have := (c4 (by omega)).2
      unfold wantR at this
      rw [if_neg (by omega), if_neg (by omega), if_neg (by omega), if_neg (by omega), if_neg (by omega), if_neg (by omega), if_neg (by omega), if_neg (by omega)] at this
      rw [this]; exact Out.vr_ok (VR.num _ _ _) _ _
    rw [if_neg h80, if_neg h80]
    by_cases h81 : x.kind = 81
    · rw [if_pos h81, if_pos h81]
      unfold reachE at c1
      rw [if_pos h81] at c1
      have c3 := c3 h81
      cases ht : te x.name with
      | none => rw [ht] at c1; cases c1
      | some t =>
        rw [ht] at c3
        obtain ⟨a, b, e1, e2, hv⟩ := he x.name t ht
        rw [e1, e2, c3]; exact Out.vr_ok hv _ _
    rw [if_neg h81, if_neg h81]
    obtain ⟨c5, c6⟩ := c4 h81
    by_cases h83 : x.kind = 83
    · rw [if_pos h83, if_pos h83]
      obtain ⟨k1, k2⟩ := chkTL_ok (show x.kind ≠ 84 by omega) _ _ _ c2
      obtain ⟨y0, y1, y2, e⟩ := three (l83 h83)
      rw [k1] at c5 c6
      unfold wantR at c5 c6
      rw [if_neg (by omega), if_pos h83] at c5 c6
      rw [e] at c5 c6 k2 hkid
      simp only [List.nil_append, List.map_cons, List.map_nil, List.getD_cons_succ, List.getD_cons_zero] at c5 c6
      have q0 : (chkT lib y0 te).1 = false := by injection c5
      have q2 : (chkT lib y2 te).1 = (chkT lib y1 te).1 := by injection c5 with _ q; injection q with _ q; injection q
      have n0 : kidN x 0 = y0 := by unfold kidN; rw [e]; rfl
      have n1 : kidN x 1 = y1 := by unfold kidN; rw [e]; rfl
      have n2 : kidN x 2 = y2 := by unfold kidN; rw [e]; rfl
      rw [n0]
      refine Out.vr_bind (ih act te env env' y0 _ false (hkid y0 (by simp)) (Prod.ext q0 (k2 y0 (by simp))) he) fun a b g hv => ?_
      rw [hv.n rfl]
      by_cases hb0 : b.n = 0
      · rw [if_neg (fun e => e hb0), n2]
        exact ih act te env env' y2 _ ty (hkid y2 (by simp)) (Prod.ext (by rw [q2, c6]) (k2 y2 (by simp))) he
      · rw [if_pos hb0, n1]
        exact ih act te env env' y1 _ ty (hkid y1 (by simp)) (Prod.ext (by rw [c6]) (k2 y1 (by simp))) he
    rw [if_neg h83, if_neg h83]
    by_cases h84 : x.kind = 84
    · rw [if_pos h84, if_pos h84]
      obtain ⟨y0, y1, e⟩ := two (l84 h84)
      unfold wantR at c6
      rw [if_neg (by omega), if_neg (by omega), if_pos h84] at c6
      rw [e, h84] at c2 c6
      rw [e] at hkid
      rw [chkTL] at c2 c6
      have e0 : envAt 84 x.name te 0 [] = te := by unfold envAt; rw [if_neg (by omega)]
      rw [e0] at c2 c6
      by_cases g0 : (chkT lib y0 te).2 = 0
      rotate_left
      · rw [if_pos g0] at c2; exact absurd c2 g0
      rw [if_neg (fun e => e g0)] at c2 c6
      rw [chkTL] at c2 c6
      have e1 : envAt 84 x.name te (0 + 1) ([] ++ [(chkT lib y0 te).1]) = setE te x.name (some (chkT lib y0 te).1) := by unfold envAt; rw [if_pos ⟨rfl, rfl⟩]; rfl
      rw [e1] at c2 c6
      by_cases g1 : (chkT lib y1 (setE te x.name (some (chkT lib y0 te).1))).2 = 0
      rotate_left
      · rw [if_pos g1] at c2; exact absurd c2 g1
      rw [if_neg (fun e => e g1), chkTL] at c6
      have c6 : ty = (chkT lib y1 (setE te x.name (some (chkT lib y0 te).1))).1 := c6
      have n0 : kidN x 0 = y0 := by unfold kidN; rw [e]; rfl
      have n1 : kidN x 1 = y1 := by unfold kidN; rw [e]; rfl
      rw [n0, n1]
      refine Out.vr_bind (ih act te env env' y0 _ (chkT lib y0 te).1 (hkid y0 (by simp)) (Prod.ext rfl g0) he) fun a b g hv => ?_
      exact ih act _ _ _ y1 _ ty (hkid y1 (by simp)) (Prod.ext c6.symm g1) (he.set hv x.name)
    rw [if_neg h84, if_neg h84]
    obtain ⟨k1, k2⟩ := chkTL_ok h84 _ _ _ c2
    rw [List.nil_append] at k1
    rw [k1] at c5 c6
    refine OutL.vr_bind (evL_vr (T := fun y => (chkT lib y te).1) x.kids (fun y hy g => ih act te env env' y g _ (hkid y hy) (Prod.ext rfl (k2 y hy)) he) (f - 1)) fun us vs g hv => ?_
    by_cases h85 : x.kind = 85
    · rw [if_pos h85, if_pos h85]
      obtain ⟨p1, p2⟩ := reach85 c1 h85
      rcases findF_range x.name lib 0 with e | ⟨i, i1, i2, _⟩
      · rw [e] at p1; omega
      have hn : (findF lib x.name 0).toNat = i := by rw [i2]; omega
      have hi : lib[(findF lib x.name 0).toNat]? = some lib[i] := by rw [hn]; exact List.getElem?_eq_getElem i1
      unfold wantR at c5 c6
      rw [if_neg (by omega), if_neg (by omega), if_neg (by omega), if_pos h85, hi] at c5 c6
      rw [c6]
      rw [c5] at hv
      exact enter_vr L ih act _ hi hv g
    · rw [if_neg h85, if_neg h85, c6]
      exact opO_vr ap hk h80 h81 h83 h84 h85 c5 hv g

end Go.Proofs.Ytgokgcnalgpiiaa

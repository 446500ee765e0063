/-
  All calls of an evaluation are good trees (plain).
-/
import Derived.Test.YtgokgcnalgpiiaaFevSub
namespace Go.Proofs.Ytgokgcnalgpiiaa

def Out.gd (ap : Int → Int → Int → Int × Int) (lib : List Fn1) (o : Out) : Prop := ∀ v g c, o = .ok v g c → goodL ap lib c
def OutL.gd (ap : Int → Int → Int → Int × Int) (lib : List Fn1) (o : OutL) : Prop := ∀ v g c, o = .ok v g c → goodL ap lib c
theorem Out.gd_err (ap : Int → Int → Int → Int × Int) (lib : List Fn1) (e : Int) : Out.gd ap lib (.err e) := fun _ _ _ h => by cases h
theorem Out.gd_nil (ap : Int → Int → Int → Int × Int) (lib : List Fn1) (v : Vl) (g : Nat) : Out.gd ap lib (.ok v g []) := fun _ _ _ h => by
  cases h; rw [goodL]; trivial
theorem Out.gd_pre {ap : Int → Int → Int → Int × Int} {lib : List Fn1} {o : Out} (h : o.gd ap lib) {c : List Tr} (hc : goodL ap lib c) : (o.pre c).gd ap lib := by
  cases o with
  | err e => exact Out.gd_err _ _ e
  | ok v g c' =>
    intro v' g' c2 e
    cases e
    exact goodL_append hc (h v g c' rfl)
theorem Out.gd_bind {ap : Int → Int → Int → Int × Int} {lib : List Fn1} {t : Bool} {n : Nat} {o : Out} {K : Vl → Nat → Out} (hv : Out.vr t o o) (hl : o.le n) (h : o.gd ap lib) (hK : ∀ v f, VR t v v → f ≤ n → (K v f).gd ap lib) : (o.bind K).gd ap lib := by
  cases o with
  | err e => exact Out.gd_err _ _ e
  | ok v g c =>
    rcases hv with ⟨e, h1, _⟩ | ⟨a, b, f, c', h1, h2, hv⟩
    · cases h1
    · cases h1
      exact Out.gd_pre (hK v g hv.self hl) (h v g c rfl)
theorem OutL.gd_bind {ap : Int → Int → Int → Int × Int} {lib : List Fn1} {ts : List Bool} {n : Nat} {o : OutL} {K : List Vl → Nat → Out} (hv : OutL.vr ts o o) (hl : o.le n) (h : o.gd ap lib) (hK : ∀ v f, VRs ts v v → f ≤ n → (K v f).gd ap lib) : (o.bind K).gd ap lib := by
  cases o with
  | err e => exact Out.gd_err _ _ e
  | ok v g c =>
    rcases hv with ⟨e, h1, _⟩ | ⟨a, b, f, c', h1, h2, hv⟩
    · cases h1
    · cases h1
      cases h2
      exact Out.gd_pre (hK v g hv hl) (h v g c rfl)
theorem evL_gd {ap : Int → Int → Int → Int × Int} {lib : List Fn1} {n : Nat} {E : Nd → Nat → Out} (hl : ∀ x f, (E x f).le f) : ∀ (l : List Nd), (∀ x ∈ l, ∀ f, f ≤ n → (E x f).gd ap lib) → ∀ f : Nat, f ≤ n → (evL E l f).gd ap lib
  | [], _, f, _ => by
    rw [evL]; intro v g c h; cases h; rw [goodL]; trivial
  | x :: r, hE, f, hf => by
    rw [evL]
    have h1 := hE x (by simp) f hf
    have h2 := hl x f
    cases h : E x f with
    | err e => intro v g c h; cases h
    | ok v f1 c1 =>
      rw [h] at h1 h2
      have k := evL_gd hl r (fun y hy => hE y (by simp [hy])) f1 (Nat.le_trans h2 hf)
      dsimp only
      cases h' : evL E r f1 with
      | err e => intro v g c h; cases h
      | ok vs f2 c2 =>
        rw [h'] at k
        intro v' g' c' e
        cases e
        exact goodL_append (h1 _ _ _ rfl) (k _ _ _ rfl)
theorem opO_gd (ap : Int → Int → Int → Int × Int) (lib : List Fn1) (x : Nd) (l : List Vl) (f : Nat) : (opO ap x l f).gd ap lib := by
  unfold opO
  split
  · exact Out.gd_nil _ _ _ _
  · exact Out.gd_err _ _ _
theorem ev_good (ap : Int → Int → Int → Int × Int) {lib : List Fn1} (L : LibOk lib) : ∀ (d act : Nat) (te : ByteArray → Option Bool) (env : ByteArray → Option Vl) (x : Nd) (f : Nat) (ty : Bool), f ≤ 2000 → formT x = true → chkT lib x te = (ty, 0) → ER te env env → (ev ap lib d act env x f).gd ap lib
  | 0, _, _, _, _, _, _, _, _, _, _ => Out.gd_err _ _ _
  | d + 1, act, te, env, x, f, ty, hf2, hf, hc, he => by
    have ih := ev_good ap L d
    have iv := ev_vr ap L d
    have le : ∀ a env x f, (ev ap lib d a env x f).le f := fun a env x f => Out.le_mono (Nat.sub_le _ _) (ev_le ap lib d a env x f)
    rw [formT_eq] at hf
    obtain ⟨hb, hkids⟩ := Bool.and_eq_true_iff.1 hf
    have hkid := formT_kid hkids
    obtain ⟨l82, l83, l84, hk⟩ := form_len hb
    obtain ⟨c1, c2, c3, c4⟩ := chkT_ok hc
    rw [ev]
    by_cases h0 : f = 0
    · rw [if_pos h0]; exact Out.gd_err _ _ _
    rw [if_neg h0]
    by_cases h80 : x.kind = 80
    · rw [if_pos h80]; exact Out.gd_nil _ _ _ _
    rw [if_neg h80]
    by_cases h81 : x.kind = 81
    · rw [if_pos h81]; exact Out.gd_nil _ _ _ _
    rw [if_neg h81]
    obtain ⟨c5, c6⟩ := c4 h81
    by_cases h83 : x.kind = 83
    · rw [if_pos h83]
      obtain ⟨k1, k2⟩ := chkTL_ok (show x.kind ≠ 84 by omega) _ _ _ c2
      obtain ⟨y0, y1, y2, e⟩ := three (l83 h83)
      rw [e] at k2 hkid
      have n0 : kidN x 0 = y0 := by unfold kidN; rw [e]; rfl
      have n1 : kidN x 1 = y1 := by unfold kidN; rw [e]; rfl
      have n2 : kidN x 2 = y2 := by unfold kidN; rw [e]; rfl
      rw [n0]
      refine Out.gd_bind (iv act te env env y0 _ _ (hkid y0 (by simp)) (Prod.ext rfl (k2 y0 (by simp))) he) (le _ _ _ _) (ih act te env y0 _ _ (by omega) (hkid y0 (by simp)) (Prod.ext rfl (k2 y0 (by simp))) he) fun a g hv hg => ?_
      by_cases hb0 : a.n = 0
      · rw [if_neg (fun e => e hb0), n2]
        exact ih act te env y2 _ _ (by omega) (hkid y2 (by simp)) (Prod.ext rfl (k2 y2 (by simp))) he
      · rw [if_pos hb0, n1]
        exact ih act te env y1 _ _ (by omega) (hkid y1 (by simp)) (Prod.ext rfl (k2 y1 (by simp))) he
    rw [if_neg h83]
    by_cases h84 : x.kind = 84
    · rw [if_pos h84]
      obtain ⟨y0, y1, e⟩ := two (l84 h84)
      rw [e, h84] at c2
      rw [e] at hkid
      rw [chkTL] at c2
      have e0 : envAt 84 x.name te 0 [] = te := by unfold envAt; rw [if_neg (by omega)]
      rw [e0] at c2
      by_cases g0 : (chkT lib y0 te).2 = 0
      rotate_left
      · rw [if_pos g0] at c2; exact absurd c2 g0
      rw [if_neg (fun e => e g0)] at c2
      rw [chkTL] at c2
      have e1 : envAt 84 x.name te (0 + 1) ([] ++ [(chkT lib y0 te).1]) = setE te x.name (some (chkT lib y0 te).1) := by unfold envAt; rw [if_pos ⟨rfl, rfl⟩]; rfl
      rw [e1] at c2
      by_cases g1 : (chkT lib y1 (setE te x.name (some (chkT lib y0 te).1))).2 = 0
      rotate_left
      · rw [if_pos g1] at c2; exact absurd c2 g1
      have n0 : kidN x 0 = y0 := by unfold kidN; rw [e]; rfl
      have n1 : kidN x 1 = y1 := by unfold kidN; rw [e]; rfl
      rw [n0, n1]
      refine Out.gd_bind (iv act te env env y0 _ (chkT lib y0 te).1 (hkid y0 (by simp)) (Prod.ext rfl g0) he) (le _ _ _ _) (ih act te env y0 _ _ (by omega) (hkid y0 (by simp)) (Prod.ext rfl g0) he) fun a g hv hg => ?_
      exact ih act _ _ y1 _ _ (by omega) (hkid y1 (by simp)) (Prod.ext rfl g1) (he.set hv x.name)
    rw [if_neg h84]
    obtain ⟨k1, k2⟩ := chkTL_ok h84 _ _ _ c2
    rw [List.nil_append] at k1
    rw [k1] at c5 c6
    refine OutL.gd_bind (evL_vr (T := fun y => (chkT lib y te).1) x.kids (fun y hy g => iv act te env env y g _ (hkid y hy) (Prod.ext rfl (k2 y hy)) he) (f - 1)) (evL_le (le _ _) _ _) (evL_gd (n := 2000) (le _ _) x.kids (fun y hy g hg => ih act te env y g _ hg (hkid y hy) (Prod.ext rfl (k2 y hy)) he) (f - 1) (by omega)) fun us g hv hg => ?_
    by_cases h85 : x.kind = 85
    · rw [if_pos h85]
      obtain ⟨p1, p2⟩ := reach85 c1 h85
      rcases findF_range x.name lib 0 with e | ⟨i, i1, i2, _⟩
      · rw [e] at p1; omega
      have hn : (findF lib x.name 0).toNat = i := by rw [i2]; omega
      have hi : lib[(findF lib x.name 0).toNat]? = some lib[i] := by rw [hn]; exact List.getElem?_eq_getElem i1
      unfold wantR at c5 c6
      rw [if_neg (by omega), if_neg (by omega), if_neg (by omega), if_pos h85, hi] at c5 c6
      rw [c5] at hv
      cases ht : enter lib (ev ap lib d) act (findF lib x.name 0) us g with
      | err e => exact Out.gd_err _ _ _
      | ok t g1 =>
        intro v' g' c' e
        cases e
        rw [goodL, goodL]
        exact ⟨enter_good ap L hi p1 hv (by omega) ht (ih _ _ _ _ _ _ (by omega) (L.form _ _ hi) (L.chk _ _ hi) (envF_er hv)), trivial⟩
    · rw [if_neg h85]
      exact opO_gd _ _ _ _ _

end Go.Proofs.Ytgokgcnalgpiiaa

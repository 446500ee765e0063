/-
  Types: what is well typed does not look at the field of the other type (plain).
  Types are kept by the evaluator (plain).
  Well typed expressions: related environments, related outcomes (plain).
-/
import Derived.Test.YtcoeakdpcigogaaDoorFevFuel
namespace Go.Proofs.YtcoeakdpcigogaaDoor

/-- The same value of that type. -/
structure VR (ty : Bool) (a b : Vl) : Prop where
  a1 : a.list = ty
  b1 : b.list = ty
  l : ty = true → a.l = b.l ∧ a.l.length ≤ 1000
  n : ty = false → a.n = b.n
theorem VR.cln {ty : Bool} {a b : Vl} (h : VR ty a b) : cln a = cln b := by
  unfold Go.Proofs.YtcoeakdpcigogaaDoor.cln
  rw [h.a1, h.b1]
  cases ty with
  | true => rw [if_pos rfl, if_pos rfl, (h.l rfl).1]
  | false => rw [if_neg (by simp), if_neg (by simp), h.n rfl]
theorem VR.clnR {ty : Bool} {a b : Vl} (h : VR ty a b) : VR ty (Go.Proofs.YtcoeakdpcigogaaDoor.cln a) (Go.Proofs.YtcoeakdpcigogaaDoor.cln b) := by
  rw [h.cln]
  unfold Go.Proofs.YtcoeakdpcigogaaDoor.cln
  rw [h.b1]
  cases ty with
  | true =>
    rw [if_pos rfl]
    exact ⟨rfl, rfl, fun _ => ⟨rfl, by rw [← (h.l rfl).1]; exact (h.l rfl).2⟩, fun _ => rfl⟩
  | false =>
    rw [if_neg (by simp)]
    exact ⟨rfl, rfl, (fun e => by cases e), fun _ => rfl⟩
theorem VR.num (n : Int) (l l' : List Int) : VR false ⟨false, n, l⟩ ⟨false, n, l'⟩ := ⟨rfl, rfl, fun e => (by cases e), fun _ => rfl⟩
theorem VR.lst (n n' : Int) {l : List Int} (h : l.length ≤ 1000) : VR true ⟨true, n, l⟩ ⟨true, n', l⟩ := ⟨rfl, rfl, fun _ => ⟨rfl, h⟩, fun e => (by cases e)⟩
/-- Lists of values of these types. -/
inductive VRs : List Bool → List Vl → List Vl → Prop
  | nil : VRs [] [] []
  | cons {t : Bool} {ts : List Bool} {a b : Vl} {us vs : List Vl} (h : VR t a b) (r : VRs ts us vs) : VRs (t :: ts) (a :: us) (b :: vs)
theorem VRs.map_cln {ts : List Bool} {us vs : List Vl} (h : VRs ts us vs) : us.map cln = vs.map cln := by
  induction h with
  | nil => rfl
  | cons h _ ih => rw [List.map_cons, List.map_cons, h.cln, ih]
/-- Environments of these types. -/
def ER (te : ByteArray → Option Bool) (e e' : ByteArray → Option Vl) : Prop := ∀ s t, te s = some t → ∃ a b, e s = some a ∧ e' s = some b ∧ VR t a b
theorem ER.set {te : ByteArray → Option Bool} {e e' : ByteArray → Option Vl} (h : ER te e e') {t : Bool} {a b : Vl} (hv : VR t a b) (s : ByteArray) : ER (setE te s (some t)) (setV e s a) (setV e' s b) := by
  intro s' t' ht
  unfold setE at ht
  unfold setV
  by_cases hs : s' = s
  · rw [if_pos hs] at ht ⊢
    cases ht
    exact ⟨a, b, rfl, by rw [if_pos hs], hv⟩
  · rw [if_neg hs] at ht ⊢
    rw [if_neg hs]
    exact h s' t' ht
theorem envV_er : ∀ (ps : List Pm) (us vs : List Vl) (te : ByteArray → Option Bool) (e e' : ByteArray → Option Vl), VRs (ps.map Pm.list) us vs → ER te e e' → ER (ps.foldl (fun env p => setE env p.name (some p.list)) te) (envV ps us e) (envV ps vs e')
  | [], us, vs, te, e, e', h, he => by cases h; exact he
  | p :: ps, us, vs, te, e, e', h, he => by
    rw [List.map_cons] at h
    cases h with
    | cons h r =>
      rw [List.foldl_cons, envV, envV]
      exact envV_er ps _ _ _ _ _ r (he.set h p.name)
theorem envF_er {ps : List Pm} {us vs : List Vl} (h : VRs (ps.map Pm.list) us vs) : ER (envF ps) (envV ps us fun _ => none) (envV ps vs fun _ => none) :=
  envV_er ps us vs _ _ _ h (fun s t ht => by cases ht)

def Out.vr (ty : Bool) (o o' : Out) : Prop := (∃ e, o = .err e ∧ o' = .err e) ∨ ∃ a b f c, o = .ok a f c ∧ o' = .ok b f c ∧ VR ty a b
def OutL.vr (ts : List Bool) (o o' : OutL) : Prop := (∃ e, o = .err e ∧ o' = .err e) ∨ ∃ a b f c, o = .ok a f c ∧ o' = .ok b f c ∧ VRs ts a b
theorem Out.vr_pre {ty : Bool} {o o' : Out} (h : Out.vr ty o o') (c : List Tr) : Out.vr ty (o.pre c) (o'.pre c) := by
  rcases h with ⟨e, rfl, rfl⟩ | ⟨a, b, f, c', rfl, rfl, h⟩
  · exact .inl ⟨e, rfl, rfl⟩
  · exact .inr ⟨a, b, f, _, rfl, rfl, h⟩
theorem Out.vr_bind {t ty : Bool} {o o' : Out} {K K' : Vl → Nat → Out} (h : Out.vr t o o') (hK : ∀ a b f, VR t a b → Out.vr ty (K a f) (K' b f)) : Out.vr ty (o.bind K) (o'.bind K') := by
  rcases h with ⟨e, rfl, rfl⟩ | ⟨a, b, f, c', rfl, rfl, h⟩
  · exact .inl ⟨e, rfl, rfl⟩
  · exact Out.vr_pre (hK a b f h) c'
theorem OutL.vr_bind {ts : List Bool} {ty : Bool} {o o' : OutL} {K K' : List Vl → Nat → Out} (h : OutL.vr ts o o') (hK : ∀ a b f, VRs ts a b → Out.vr ty (K a f) (K' b f)) : Out.vr ty (o.bind K) (o'.bind K') := by
  rcases h with ⟨e, rfl, rfl⟩ | ⟨a, b, f, c', rfl, rfl, h⟩
  · exact .inl ⟨e, rfl, rfl⟩
  · exact Out.vr_pre (hK a b f h) c'
theorem evL_vr {E E' : Nd → Nat → Out} {T : Nd → Bool} : ∀ (l : List Nd), (∀ x ∈ l, ∀ f, Out.vr (T x) (E x f) (E' x f)) → ∀ f : Nat, OutL.vr (l.map T) (evL E l f) (evL E' l f)
  | [], _, f => .inr ⟨[], [], f, [], by rw [evL], by rw [evL], .nil⟩
  | x :: r, hE, f => by
    rw [evL, evL]
    rcases hE x (by simp) f with ⟨e, h1, h2⟩ | ⟨a, b, f1, c, h1, h2, h⟩
    · rw [h1, h2]; exact .inl ⟨e, rfl, rfl⟩
    · rw [h1, h2]
      dsimp only
      rcases evL_vr r (fun y hy => hE y (by simp [hy])) f1 with ⟨e, k1, k2⟩ | ⟨us, vs, f2, c2, k1, k2, k⟩
      · rw [k1, k2]; exact .inl ⟨e, rfl, rfl⟩
      · rw [k1, k2]; exact .inr ⟨_, _, _, _, rfl, rfl, .cons h k⟩

end Go.Proofs.YtcoeakdpcigogaaDoor

namespace Go.Proofs.YtcoeakdpcigogaaDoor

theorem chkTL_ok {lib : List Fn1} {te : ByteArray → Option Bool} {kind : Nat} {name : ByteArray} (hk : kind ≠ 84) : ∀ (l : List Nd) (i : Nat) (ts : List Bool), (chkTL lib l te kind name i ts).2 = 0 → (chkTL lib l te kind name i ts).1 = ts ++ l.map (fun y => (chkT lib y te).1) ∧ ∀ y ∈ l, (chkT lib y te).2 = 0
  | [], i, ts, _ => by rw [chkTL]; exact ⟨by simp, by simp⟩
  | y :: r, i, ts, h => by
    have he : envAt kind name te i ts = te := by unfold envAt; rw [if_neg (fun h => hk h.1)]
    rw [chkTL, he] at h ⊢
    by_cases h1 : (chkT lib y te).2 = 0
    · rw [if_neg (fun e => e h1)] at h ⊢
      obtain ⟨h2, h3⟩ := chkTL_ok hk r (i + 1) _ h
      refine ⟨by rw [h2]; simp, fun z hz => ?_⟩
      rcases List.mem_cons.1 hz with rfl | hz
      · exact h1
      · exact h3 z hz
    · rw [if_pos h1] at h; exact absurd h h1
/-- What a well typed node is made of. -/
theorem chkT_ok {lib : List Fn1} {te : ByteArray → Option Bool} {x : Nd} {ty : Bool} (h : chkT lib x te = (ty, 0)) : reachE lib te x = 0 ∧ (chkTL lib x.kids te x.kind x.name 0 []).2 = 0 ∧ (x.kind = 81 → ty = (te x.name).getD false) ∧ (x.kind ≠ 81 → (chkTL lib x.kids te x.kind x.name 0 []).1 = (wantR lib x (chkTL lib x.kids te x.kind x.name 0 []).1).1 ∧ ty = (wantR lib x (chkTL lib x.kids te x.kind x.name 0 []).1).2) := by
  rw [chkT_eq] at h
  by_cases h1 : reachE lib te x = 0
  rotate_left
  · rw [if_pos h1] at h; exact absurd (Prod.ext_iff.1 h).2 h1
  rw [if_neg (fun e => e h1)] at h
  by_cases h2 : (chkTL lib x.kids te x.kind x.name 0 []).2 = 0
  rotate_left
  · rw [if_pos h2] at h; exact absurd (Prod.ext_iff.1 h).2 h2
  rw [if_neg (fun e => e h2)] at h
  refine ⟨h1, h2, fun h81 => ?_, fun h81 => ?_⟩
  · rw [if_pos h81] at h; exact (Prod.ext_iff.1 h).1.symm
  · rw [if_neg h81] at h
    unfold resR resQ at h
    by_cases h3 : (chkTL lib x.kids te x.kind x.name 0 []).1 = (wantR lib x (chkTL lib x.kids te x.kind x.name 0 []).1).1
    · rw [if_pos h3] at h; exact ⟨h3, (Prod.ext_iff.1 h).1.symm⟩
    · rw [if_neg h3] at h; exact absurd (Prod.ext_iff.1 h).2 (show ¬ ((7 : Int) = 0) by decide)

theorem formT_kid : ∀ {l : List Nd}, formTL l = true → ∀ y ∈ l, formT y = true
  | [], _, y, hy => by cases hy
  | x :: r, h, y, hy => by
    rw [formTL] at h
    obtain ⟨h1, h2⟩ := Bool.and_eq_true_iff.1 h
    rcases List.mem_cons.1 hy with rfl | hy
    · exact h1
    · exact formT_kid h2 y hy
theorem form_len {x : Nd} (h : formB x.kind x.num x.name x.kids.length = true) : (x.kind = 82 → x.kids.length = 2) ∧ (x.kind = 83 → x.kids.length = 3) ∧ (x.kind = 84 → x.kids.length = 2) ∧ (80 ≤ x.kind ∧ x.kind ≤ 90) := by
  unfold formB at h
  refine ⟨fun e => ?_, fun e => ?_, fun e => ?_, ?_⟩
  · rw [e] at h; simp at h; omega
  · rw [e] at h; simp at h; omega
  · rw [e] at h; simp at h; omega
  · apply Classical.byContradiction
    intro hn
    rw [if_neg (by omega), if_neg (by omega), if_neg (by omega), if_neg (by omega), if_neg (by omega), if_neg (show ¬ x.kind = 86 by omega), if_neg (show ¬ (x.kind = 88 ∨ x.kind = 89 ∨ x.kind = 90) by omega), if_neg (show ¬ x.kind = 87 by omega), if_neg (show ¬ x.kind = 83 by omega)] at h
    simp at h

theorem VRs.two {t u : Bool} {us vs : List Vl} (h : VRs [t, u] us vs) : ∃ a a' b b', us = [a, b] ∧ vs = [a', b'] ∧ VR t a a' ∧ VR u b b' := by
  cases h with
  | cons h r => cases r with
    | cons h2 r => cases r; exact ⟨_, _, _, _, rfl, rfl, h, h2⟩
theorem VRs.one {t : Bool} {us vs : List Vl} (h : VRs [t] us vs) : ∃ a a', us = [a] ∧ vs = [a'] ∧ VR t a a' := by
  cases h with
  | cons h r => cases r; exact ⟨_, _, rfl, rfl, h⟩
theorem Out.vr_ok {ty : Bool} {a b : Vl} (h : VR ty a b) (f : Nat) (c : List Tr) : Out.vr ty (.ok a f c) (.ok b f c) := .inr ⟨a, b, f, c, rfl, rfl, h⟩
theorem Out.vr_err (ty : Bool) (e : Int) : Out.vr ty (.err e) (.err e) := .inl ⟨e, rfl, rfl⟩

/-- Operations keep types. -/
theorem opO_vr (ap : Int → Int → Int → Int × Int) {lib : List Fn1} {x : Nd} {ts : List Bool} {us vs : List Vl} (hk : 80 ≤ x.kind ∧ x.kind ≤ 90) (h80 : x.kind ≠ 80) (h81 : x.kind ≠ 81) (h83 : x.kind ≠ 83) (h84 : x.kind ≠ 84) (h85 : x.kind ≠ 85) (hw : ts = (wantR lib x ts).1) (hv : VRs ts us vs) (f : Nat) : Out.vr (wantR lib x ts).2 (opO ap x us f) (opO ap x vs f) := by
  by_cases h82 : x.kind = 82
  · have e : wantR lib x ts = ([false, false], false) := by unfold wantR; rw [if_pos h82]
    rw [e] at hw ⊢; subst hw
    obtain ⟨a, a', b, b', rfl, rfl, ha, hb⟩ := hv.two
    unfold opO opR
    rw [if_pos h82, if_pos h82]
    simp only [List.getElem?_cons_zero, List.getElem?_cons_succ, Option.getD_some]
    rw [ha.n rfl, hb.n rfl]
    split
    · exact Out.vr_ok (VR.num _ _ _) _ _
    · exact Out.vr_err _ _
  by_cases h86 : x.kind = 86
  · have e : wantR lib x ts = ([], true) := by unfold wantR; rw [if_neg h82, if_neg h83, if_neg h84, if_neg h85, if_pos h86]
    rw [e] at hw ⊢; subst hw
    cases hv
    unfold opO
    split
    · have : (opR ap x.kind x.num []).1 = ⟨true, 0, []⟩ := by unfold opR; rw [if_neg h82, if_neg (by omega), if_neg (by omega), if_neg (by omega), if_neg (by omega)]
      rw [this]; exact Out.vr_ok (VR.lst _ _ (by simp)) _ _
    · exact Out.vr_err _ _
  by_cases h87 : x.kind = 87
  · have e : wantR lib x ts = ([false, true], true) := by unfold wantR; rw [if_neg h82, if_neg h83, if_neg h84, if_neg h85, if_neg h86, if_pos h87]
    rw [e] at hw ⊢; subst hw
    obtain ⟨a, a', b, b', rfl, rfl, ha, hb⟩ := hv.two
    unfold opO opR
    rw [if_neg h82, if_pos h87, if_neg h82, if_pos h87]
    simp only [List.getElem?_cons_zero, List.getElem?_cons_succ, Option.getD_some]
    rw [ha.n rfl, (hb.l rfl).1]
    by_cases hl : 1000 ≤ b'.l.length
    · rw [if_pos hl]; exact Out.vr_err _ _
    · rw [if_neg hl]; exact Out.vr_ok (VR.lst _ _ (by simp; omega)) _ _
  have hone : (wantR lib x ts).1 = [true] := by
    unfold wantR
    rw [if_neg h82, if_neg h83, if_neg h84, if_neg h85, if_neg h86, if_neg h87]
    by_cases h : x.kind = 88 ∨ x.kind = 90
    · rw [if_pos h]
    · rw [if_neg h, if_pos (by omega)]
  rw [hone] at hw; subst hw
  obtain ⟨a, a', rfl, rfl, ha⟩ := hv.one
  have hl := ha.l rfl
  unfold opO opR wantR
  rw [if_neg h82, if_neg h82, if_neg h82, if_neg h83, if_neg h84, if_neg h85, if_neg h86, if_neg h87, if_neg h87, if_neg h87]
  simp only [List.getElem?_cons_zero, Option.getD_some]
  rw [hl.1]
  have h1000 : a'.l.length ≤ 1000 := by rw [← hl.1]; exact hl.2
  by_cases h88 : x.kind = 88
  · rw [if_pos h88, if_pos (.inl h88)]
    cases hA : a'.l with
    | nil => exact Out.vr_err _ _
    | cons y r => exact Out.vr_ok (VR.num _ _ _) _ _
  rw [if_neg h88]
  by_cases h89 : x.kind = 89
  · rw [if_pos h89, if_neg (by omega), if_pos h89]
    cases hA : a'.l with
    | nil => exact Out.vr_err _ _
    | cons y r =>
      rw [hA] at h1000
      exact Out.vr_ok (VR.lst _ _ (by simp at h1000; omega)) _ _
  rw [if_neg h89, if_pos (show x.kind = 90 by omega), if_pos (.inr (by omega)), if_neg h89]
  cases hA : a'.l with
  | nil => exact Out.vr_ok (VR.num _ _ _) _ _
  | cons y r => exact Out.vr_ok (VR.num _ _ _) _ _

end Go.Proofs.YtcoeakdpcigogaaDoor

namespace Go.Proofs.YtcoeakdpcigogaaDoor

/-- Every function of the library is well formed and has the declared type. -/
structure LibOk (lib : List Fn1) : Prop where
  form : ∀ (i : Nat) (f : Fn1), lib[i]? = some f → formT f.body = true
  chk : ∀ (i : Nat) (f : Fn1), lib[i]? = some f → chkT lib f.body (envF f.params) = (f.list, 0)
theorem LibOk.of {lib : List Fn1} (h : (validR lib).2 = 0) : LibOk lib :=
  ⟨fun _ _ hf => (one_facts (valid_facts h hf)).2.2.2.2.1, fun _ _ hf => (one_facts (valid_facts h hf)).2.2.2.2.2.2.2⟩
theorem enter_vr {lib : List Fn1} (L : LibOk lib) {E E' : Nat → (ByteArray → Option Vl) → Nd → Nat → Out} (hE : ∀ a te e e' x f ty, formT x = true → chkT lib x te = (ty, 0) → ER te e e' → Out.vr ty (E a e x f) (E' a e' x f)) (act : Nat) (i : Int) {fn : Fn1} (hi : lib[i.toNat]? = some fn) {us vs : List Vl} (h : VRs (fn.params.map Pm.list) us vs) (f : Nat) : Out.vr fn.list (enter lib E act i us f).out (enter lib E' act i vs f).out := by
  unfold enter
  by_cases h30 : 30 ≤ act
  · rw [if_pos h30, if_pos h30]; exact Out.vr_err _ _
  rw [if_neg h30, if_neg h30, hi]
  dsimp only
  rcases hE (act + 1) (envF fn.params) _ _ fn.body f fn.list (L.form _ _ hi) (L.chk _ _ hi) (envF_er h) with ⟨e, h1, h2⟩ | ⟨a, b, f1, c, h1, h2, hv⟩
  · rw [h1, h2]; exact Out.vr_err _ _
  · rw [h1, h2]
    dsimp only
    rw [h.map_cln, hv.cln]
    have hc := hv.clnR
    rw [hv.cln] at hc
    exact Out.vr_ok hc _ _
theorem three {l : List Nd} (h : l.length = 3) : ∃ a b c, l = [a, b, c] := by
  match l, h with
  | [a, b, c], _ => exact ⟨a, b, c, rfl⟩
theorem two {l : List Nd} (h : l.length = 2) : ∃ a b, l = [a, b] := by
  match l, h with
  | [a, b], _ => exact ⟨a, b, rfl⟩
theorem ev_vr (ap : Int → Int → Int → Int × Int) {lib : List Fn1} (L : LibOk lib) : ∀ (d act : Nat) (te : ByteArray → Option Bool) (env env' : ByteArray → Option Vl) (x : Nd) (f : Nat) (ty : Bool), formT x = true → chkT lib x te = (ty, 0) → ER te env env' → Out.vr ty (ev ap lib d act env x f) (ev ap lib d act env' x f)
  | 0, _, _, _, _, _, _, _, _, _, _ => Out.vr_err _ _
  | d + 1, act, te, env, env', x, f, ty, hf, hc, he => by
    have ih := ev_vr ap L d
    rw [formT_eq] at hf
    obtain ⟨hb, hkids⟩ := Bool.and_eq_true_iff.1 hf
    have hkid := formT_kid hkids
    obtain ⟨l82, l83, l84, hk⟩ := form_len hb
    obtain ⟨c1, c2, c3, c4⟩ := chkT_ok hc
    rw [ev, ev]
    by_cases h0 : f = 0
    · rw [if_pos h0, if_pos h0]; exact Out.vr_err _ _
    rw [if_neg h0, if_neg h0]
    by_cases h80 : x.kind = 80
    · rw [if_pos h80, if_pos h80]
      have := (c4 (by omega)).2
      unfold wantR at this
      rw [if_neg (by omega), if_neg (by omega), if_neg (by omega), if_neg (by omega), if_neg (by omega), if_neg (by omega), if_neg (by omega), if_neg (by omega)] at this
      rw [this]; exact Out.vr_ok (VR.num _ _ _) _ _
    rw [if_neg h80, if_neg h80]
    by_cases h81 : x.kind = 81
    · rw [if_pos h81, if_pos h81]
      unfold reachE at c1
      rw [if_pos h81] at c1
      have c3 := c3 h81
      cases ht : te x.name with
      | none => rw [ht] at c1; cases c1
      | some t =>
        rw [ht] at c3
        obtain ⟨a, b, e1, e2, hv⟩ := he x.name t ht
        rw [e1, e2, c3]; exact Out.vr_ok hv _ _
    rw [if_neg h81, if_neg h81]
    obtain ⟨c5, c6⟩ := c4 h81
    by_cases h83 : x.kind = 83
    · rw [if_pos h83, if_pos h83]
      obtain ⟨k1, k2⟩ := chkTL_ok (show x.kind ≠ 84 by omega) _ _ _ c2
      obtain ⟨y0, y1, y2, e⟩ := three (l83 h83)
      rw [k1] at c5 c6
      unfold wantR at c5 c6
      rw [if_neg (by omega), if_pos h83] at c5 c6
      rw [e] at c5 c6 k2 hkid
      simp only [List.nil_append, List.map_cons, List.map_nil, List.getD_cons_succ, List.getD_cons_zero] at c5 c6
      have q0 : (chkT lib y0 te).1 = false := by injection c5
      have q2 : (chkT lib y2 te).1 = (chkT lib y1 te).1 := by injection c5 with _ q; injection q with _ q; injection q
      have n0 : kidN x 0 = y0 := by unfold kidN; rw [e]; rfl
      have n1 : kidN x 1 = y1 := by unfold kidN; rw [e]; rfl
      have n2 : kidN x 2 = y2 := by unfold kidN; rw [e]; rfl
      rw [n0]
      refine Out.vr_bind (ih act te env env' y0 _ false (hkid y0 (by simp)) (Prod.ext q0 (k2 y0 (by simp))) he) fun a b g hv => ?_
      rw [hv.n rfl]
      by_cases hb0 : b.n = 0
      · rw [if_neg (fun e => e hb0), n2]
        exact ih act te env env' y2 _ ty (hkid y2 (by simp)) (Prod.ext (by rw [q2, c6]) (k2 y2 (by simp))) he
      · rw [if_pos hb0, n1]
        exact ih act te env env' y1 _ ty (hkid y1 (by simp)) (Prod.ext (by rw [c6]) (k2 y1 (by simp))) he
    rw [if_neg h83, if_neg h83]
    by_cases h84 : x.kind = 84
    · rw [if_pos h84, if_pos h84]
      obtain ⟨y0, y1, e⟩ := two (l84 h84)
      unfold wantR at c6
      rw [if_neg (by omega), if_neg (by omega), if_pos h84] at c6
      rw [e, h84] at c2 c6
      rw [e] at hkid
      rw [chkTL] at c2 c6
      have e0 : envAt 84 x.name te 0 [] = te := by unfold envAt; rw [if_neg (by omega)]
      rw [e0] at c2 c6
      by_cases g0 : (chkT lib y0 te).2 = 0
      rotate_left
      · rw [if_pos g0] at c2; exact absurd c2 g0
      rw [if_neg (fun e => e g0)] at c2 c6
      rw [chkTL] at c2 c6
      have e1 : envAt 84 x.name te (0 + 1) ([] ++ [(chkT lib y0 te).1]) = setE te x.name (some (chkT lib y0 te).1) := by unfold envAt; rw [if_pos ⟨rfl, rfl⟩]; rfl
      rw [e1] at c2 c6
      by_cases g1 : (chkT lib y1 (setE te x.name (some (chkT lib y0 te).1))).2 = 0
      rotate_left
      · rw [if_pos g1] at c2; exact absurd c2 g1
      rw [if_neg (fun e => e g1), chkTL] at c6
      have c6 : ty = (chkT lib y1 (setE te x.name (some (chkT lib y0 te).1))).1 := c6
      have n0 : kidN x 0 = y0 := by unfold kidN; rw [e]; rfl
      have n1 : kidN x 1 = y1 := by unfold kidN; rw [e]; rfl
      rw [n0, n1]
      refine Out.vr_bind (ih act te env env' y0 _ (chkT lib y0 te).1 (hkid y0 (by simp)) (Prod.ext rfl g0) he) fun a b g hv => ?_
      exact ih act _ _ _ y1 _ ty (hkid y1 (by simp)) (Prod.ext c6.symm g1) (he.set hv x.name)
    rw [if_neg h84, if_neg h84]
    obtain ⟨k1, k2⟩ := chkTL_ok h84 _ _ _ c2
    rw [List.nil_append] at k1
    rw [k1] at c5 c6
    refine OutL.vr_bind (evL_vr (T := fun y => (chkT lib y te).1) x.kids (fun y hy g => ih act te env env' y g _ (hkid y hy) (Prod.ext rfl (k2 y hy)) he) (f - 1)) fun us vs g hv => ?_
    by_cases h85 : x.kind = 85
    · rw [if_pos h85, if_pos h85]
      obtain ⟨p1, p2⟩ := reach85 c1 h85
      rcases findF_range x.name lib 0 with e | ⟨i, i1, i2, _⟩
      · rw [e] at p1; omega
      have hn : (findF lib x.name 0).toNat = i := by rw [i2]; omega
      have hi : lib[(findF lib x.name 0).toNat]? = some lib[i] := by rw [hn]; exact List.getElem?_eq_getElem i1
      unfold wantR at c5 c6
      rw [if_neg (by omega), if_neg (by omega), if_neg (by omega), if_pos h85, hi] at c5 c6
      rw [c6]
      rw [c5] at hv
      exact enter_vr L ih act _ hi hv g
    · rw [if_neg h85, if_neg h85, c6]
      exact opO_vr ap hk h80 h81 h83 h84 h85 c5 hv g

end Go.Proofs.YtcoeakdpcigogaaDoor

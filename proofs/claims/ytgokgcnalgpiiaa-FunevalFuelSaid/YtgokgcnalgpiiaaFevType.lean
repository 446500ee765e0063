/-
  Types: what is well typed does not look at the field of the other type (plain).
-/
import Derived.Test.YtgokgcnalgpiiaaFevRen
namespace Go.Proofs.Ytgokgcnalgpiiaa

/-- The same value of that type. -/
structure VR (ty : Bool) (a b : Vl) : Prop where
  a1 : a.list = ty
  b1 : b.list = ty
  l : ty = true → a.l = b.l ∧ a.l.length ≤ 1000
  n : ty = false → a.n = b.n
theorem VR.cln {ty : Bool} {a b : Vl} (h : VR ty a b) : cln a = cln b := by
  unfold Go.Proofs.Ytgokgcnalgpiiaa.cln
  rw [h.a1, h.b1]
  cases ty with
  | true => rw [if_pos rfl, if_pos rfl, (h.l rfl).1]
  | false => rw [if_neg (by simp), if_neg (by simp), h.n rfl]
theorem VR.clnR {ty : Bool} {a b : Vl} (h : VR ty a b) : VR ty (Go.Proofs.Ytgokgcnalgpiiaa.cln a) (Go.Proofs.Ytgokgcnalgpiiaa.cln b) := by
  rw [h.cln]
  unfold Go.Proofs.Ytgokgcnalgpiiaa.cln
  rw [h.b1]
  cases ty with
  | true =>
    rw [if_pos rfl]
    exact ⟨rfl, rfl, fun _ => ⟨rfl, by rw [← (h.l rfl).1]; exact (h.l rfl).2⟩, fun _ => rfl⟩
  | false =>
    rw [if_neg (by simp)]
    exact ⟨rfl, rfl, (fun e => by cases e), fun _ => rfl⟩
theorem VR.num (n : Int) (l l' : List Int) : VR false ⟨false, n, l⟩ ⟨false, n, l'⟩ := ⟨rfl, rfl, fun e => (by cases e), fun _ => rfl⟩
theorem VR.lst (n n' : Int) {l : List Int} (h : l.length ≤ 1000) : VR true ⟨true, n, l⟩ ⟨true, n', l⟩ := ⟨rfl, rfl, fun _ => ⟨rfl, h⟩, fun e => (by cases e)⟩
/-- Lists of values of these types. -/
inductive VRs : List Bool → List Vl → List Vl → Prop
  | nil : VRs [] [] []
  | cons {t : Bool} {ts : List Bool} {a b : Vl} {us vs : List Vl} (h : VR t a b) (r : VRs ts us vs) : VRs (t :: ts) (a :: us) (b :: vs)
theorem VRs.map_cln {ts : List Bool} {us vs : List Vl} (h : VRs ts us vs) : us.map cln = vs.map cln := by
  induction h with
  | nil => rfl
  | cons h _ ih => rw [List.map_cons, List.map_cons, h.cln, ih]
/-- Environments of these types. -/
def ER (te : ByteArray → Option Bool) (e e' : ByteArray → Option Vl) : Prop := ∀ s t, te s = some t → ∃ a b, e s = some a ∧ e' s = some b ∧ VR t a b
theorem ER.set {te : ByteArray → Option Bool} {e e' : ByteArray → Option Vl} (h : ER te e e') {t : Bool} {a b : Vl} (hv : VR t a b) (s : ByteArray) : ER (setE te s (some t)) (setV e s a) (setV e' s b) := by
  intro s' t' ht
  unfold setE at ht
  unfold setV
  by_cases hs : s' = s
  · rw [if_pos hs] at ht ⊢
    cases ht
    exact ⟨a, b, rfl, by rw [if_pos hs], hv⟩
  · rw [if_neg hs] at ht ⊢
    rw [if_neg hs]
    exact h s' t' ht
theorem envV_er : ∀ (ps : List Pm) (us vs : List Vl) (te : ByteArray → Option Bool) (e e' : ByteArray → Option Vl), VRs (ps.map Pm.list) us vs → ER te e e' → ER (ps.foldl (fun env p => setE env p.name (some p.list)) te) (envV ps us e) (envV ps vs e')
  | [], us, vs, te, e, e', h, he => by cases h; exact he
  | p :: ps, us, vs, te, e, e', h, he => by
    rw [List.map_cons] at h
    cases h with
    | cons h r =>
      rw [List.foldl_cons, envV, envV]
      exact envV_er ps _ _ _ _ _ r (he.set h p.name)
theorem envF_er {ps : List Pm} {us vs : List Vl} (h : VRs (ps.map Pm.list) us vs) : ER (envF ps) (envV ps us fun _ => none) (envV ps vs fun _ => none) :=
  envV_er ps us vs _ _ _ h (fun s t ht => by cases ht)

def Out.vr (ty : Bool) (o o' : Out) : Prop := (∃ e, o = .err e ∧ o' = .err e) ∨ ∃ a b f c, o = .ok a f c ∧ o' = .ok b f c ∧ VR ty a b
def OutL.vr (ts : List Bool) (o o' : OutL) : Prop := (∃ e, o = .err e ∧ o' = .err e) ∨ ∃ a b f c, o = .ok a f c ∧ o' = .ok b f c ∧ VRs ts a b
theorem Out.vr_pre {ty : Bool} {o o' : Out} (h : Out.vr ty o o') (c : List Tr) : Out.vr ty (o.pre c) (o'.pre c) := by
  rcases h with ⟨e, rfl, rfl⟩ | ⟨a, b, f, c', rfl, rfl, h⟩
  · exact .inl ⟨e, rfl, rfl⟩
  · exact .inr ⟨a, b, f, _, rfl, rfl, h⟩
theorem Out.vr_bind {t ty : Bool} {o o' : Out} {K K' : Vl → Nat → Out} (h : Out.vr t o o') (hK : ∀ a b f, VR t a b → Out.vr ty (K a f) (K' b f)) : Out.vr ty (o.bind K) (o'.bind K') := by
  rcases h with ⟨e, rfl, rfl⟩ | ⟨a, b, f, c', rfl, rfl, h⟩
  · exact .inl ⟨e, rfl, rfl⟩
  · exact Out.vr_pre (hK a b f h) c'
theorem OutL.vr_bind {ts : List Bool} {ty : Bool} {o o' : OutL} {K K' : List Vl → Nat → Out} (h : OutL.vr ts o o') (hK : ∀ a b f, VRs ts a b → Out.vr ty (K a f) (K' b f)) : Out.vr ty (o.bind K) (o'.bind K') := by
  rcases h with ⟨e, rfl, rfl⟩ | ⟨a, b, f, c', rfl, rfl, h⟩
  · exact .inl ⟨e, rfl, rfl⟩
  · exact Out.vr_pre (hK a b f h) c'
theorem evL_vr {E E' : Nd → Nat → Out} {T : Nd → Bool} : ∀ (l : List Nd), (∀ x ∈ l, ∀ f, Out.vr (T x) (E x f) (E' x f)) → ∀ f : Nat, OutL.vr (l.map T) (evL E l f) (evL E' l f)
  | [], _, f => .inr ⟨[], [], f, [], by rw [evL], by rw [evL], .nil⟩
  | x :: r, hE, f => by
    rw [evL, evL]
    rcases hE x (by simp) f with ⟨e, h1, h2⟩ | ⟨a, b, f1, c, h1, h2, h⟩
    · rw [h1, h2]; exact .inl ⟨e, rfl, rfl⟩
    · rw [h1, h2]
      dsimp only
      rcases evL_vr r (fun y hy => hE y (by simp [hy])) f1 with ⟨e, k1, k2⟩ | ⟨us, vs, f2, c2, k1, k2, k⟩
      · rw [k1, k2]; exact .inl ⟨e, rfl, rfl⟩
      · rw [k1, k2]; exact .inr ⟨_, _, _, _, rfl, rfl, .cons h k⟩

end Go.Proofs.Ytgokgcnalgpiiaa

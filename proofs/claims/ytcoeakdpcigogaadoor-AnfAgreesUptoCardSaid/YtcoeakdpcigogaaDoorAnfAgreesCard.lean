/-
  A normalized function has the value of the original one, with twice the fuel (plain).
  A normalized function has the value of the original one, with twice the fuel (plain): by kinds of expressions.
  The walk of the law AnfAgrees.
  Proved here: for every input, the law AnfAgrees of layer 38 returns true (a normalized function has the value, or the error, of the original function, with twice the fuel), and its arguments read afterwards as before.
  Conditions: the row's own: what the arguments hold is of bulk at most 1048576, and the listed variables of Go's library are as their initialisers lay them (the card ties that to the program's text).
-/
import Derived.Test.YtcoeakdpcigogaaDoorAnfVd3
import Derived.Test.YtcoeakdpcigogaaDoorFunRot
import Derived.Test.YtcoeakdpcigogaaDoorAnfLaw
import Derived.Test.YtcoeakdpcigogaaDoorFevCall2
import Derived.Test.YtcoeakdpcigogaaDoorAnfLib
import Derived.Test.YtcoeakdpcigogaaDoorAnfOpen
namespace Go.Proofs.YtcoeakdpcigogaaDoor

section
variable {ap : Int → Int → Int → Int × Int} {lb : List Af}
theorem aRun_app (act : Nat) : ∀ (a b : List Bd) (D : Nat) (vars : Ev) (g : Nat), aRun ap lb D act (a ++ b) vars g = match aRun ap lb D act a vars g with
    | .err e => .err e
    | .ok v g' => aRun ap lb (D - a.length) act b v g'
  | [], b, D, vars, g => by rw [aRun_nil]; rfl
  | x :: r, b, 0, vars, g => by rw [List.cons_append, aRun, aRun]
  | x :: r, b, D + 1, vars, g => by
    rw [List.cons_append, aRun_cons, aRun_cons]
    by_cases h0 : g = 0
    · rw [if_pos h0, if_pos h0]
    rw [if_neg h0, if_neg h0]
    cases aBind ap lb (aRun ap lb D) act x vars (g - 1) with
    | err e => rfl
    | ok v f' =>
      dsimp only
      rw [aRun_app act r b D v f', List.length_cons, Nat.add_sub_add_right]
theorem run_one {act : Nat} {b : Bd} {vars : Ev} {D g : Nat} (h1 : 1 ≤ g) (h2 : g ≤ D) : aRun ap lb D act [b] vars g = aBind ap lb (aRun ap lb (D - 1)) act b vars (g - 1) := by
  obtain ⟨d, rfl⟩ : ∃ d, D = d + 1 := ⟨D - 1, by omega⟩
  rw [aRun_cons, if_neg (by omega)]
  show _ = aBind ap lb (aRun ap lb d) act b vars (g - 1)
  cases aBind ap lb (aRun ap lb d) act b vars (g - 1) with
  | err e => rfl
  | ok v f => dsimp only; rw [aRun_nil]
end
/-- Binds run through at that cost. -/
def ExOk (ap : Int → Int → Int → Int × Int) (lb : List Af) (act : Nat) (l : List Bd) (vars : Ev) (c : Nat) (v : Ev) : Prop := l.length ≤ c ∧ ∀ D g, c ≤ g → g ≤ D → aRun ap lb D act l vars g = .ok v (g - c)
/-- Binds fail at that cost. -/
def ExErr (ap : Int → Int → Int → Int × Int) (lb : List Af) (act : Nat) (l : List Bd) (vars : Ev) (c : Nat) (e : Int) : Prop := ∀ D g, c ≤ g → g ≤ D → aRun ap lb D act l vars g = .err e
section
variable {ap : Int → Int → Int → Int × Int} {lb : List Af} {act : Nat} {vars v1 v2 : Ev} {c c1 c2 : Nat} {a b : List Bd} {e : Int}
theorem ExOk.nil : ExOk ap lb act [] vars 0 vars := ⟨Nat.le_refl _, fun D g _ _ => by rw [aRun_nil]; rfl⟩
theorem ExOk.app (h1 : ExOk ap lb act a vars c1 v1) (h2 : ExOk ap lb act b v1 c2 v2) : ExOk ap lb act (a ++ b) vars (c1 + c2) v2 :=
  ⟨by rw [List.length_append]; have := h1.1; have := h2.1; omega, fun D g hg hD => by
    rw [aRun_app, h1.2 D g (by omega) hD]
    dsimp only
    rw [h2.2 _ _ (by omega) (by have := h1.1; omega)]
    congr 1
    omega⟩
theorem ExErr.app1 (h1 : ExErr ap lb act a vars c e) : ExErr ap lb act (a ++ b) vars c e := fun D g hg hD => by
  rw [aRun_app, h1 D g hg hD]
theorem ExErr.app2 (h1 : ExOk ap lb act a vars c1 v1) (h2 : ExErr ap lb act b v1 c2 e) : ExErr ap lb act (a ++ b) vars (c1 + c2) e := fun D g hg hD => by
  rw [aRun_app, h1.2 D g (by omega) hD]
  exact h2 _ _ (by omega) (by have := h1.1; omega)
theorem ExOk.op {t : Bd} (h83 : t.op ≠ 83) (h85 : t.op ≠ 85) (h : (opA ap t.op t.num (argsV t.args vars)).2 = 0) : ExOk ap lb act [t] vars 1 (setV vars t.to (opA ap t.op t.num (argsV t.args vars)).1) :=
  ⟨by simp, fun D g hg hD => by rw [run_one hg hD]; unfold aBind; rw [if_neg h83, if_neg h85, if_pos h]⟩
theorem ExErr.op {t : Bd} (h83 : t.op ≠ 83) (h85 : t.op ≠ 85) (h : (opA ap t.op t.num (argsV t.args vars)).2 ≠ 0) : ExErr ap lb act [t] vars 1 (opA ap t.op t.num (argsV t.args vars)).2 :=
  fun D g hg hD => by rw [run_one hg hD]; unfold aBind; rw [if_neg h83, if_neg h85, if_neg h]
theorem ExOk.ifb {t : Bd} {br : List Bd} (h83 : t.op = 83) (hbr : (if (((argsV t.args vars)[0]?).getD zeroV).n ≠ 0 then t.thn else t.els) = br) (h : ExOk ap lb act br vars c v1) : ExOk ap lb act [t] vars (c + 1) v1 :=
  ⟨by simp, fun D g hg hD => by
    rw [run_one (by omega) hD]
    unfold aBind
    rw [if_pos h83]
    by_cases hc : (((argsV t.args vars)[0]?).getD zeroV).n ≠ 0
    · rw [if_pos hc] at hbr ⊢
      rw [hbr, h.2 _ _ (by omega) (by omega)]
      congr 1
      omega
    · rw [if_neg hc] at hbr ⊢
      rw [hbr, h.2 _ _ (by omega) (by omega)]
      congr 1
      omega⟩
theorem ExErr.ifb {t : Bd} {br : List Bd} (h83 : t.op = 83) (hbr : (if (((argsV t.args vars)[0]?).getD zeroV).n ≠ 0 then t.thn else t.els) = br) (h : ExErr ap lb act br vars c e) : ExErr ap lb act [t] vars (c + 1) e := fun D g hg hD => by
  rw [run_one (by omega) hD]
  unfold aBind
  rw [if_pos h83]
  by_cases hc : (((argsV t.args vars)[0]?).getD zeroV).n ≠ 0
  · rw [if_pos hc] at hbr ⊢
    rw [hbr, h _ _ (by omega) (by omega)]
  · rw [if_neg hc] at hbr ⊢
    rw [hbr, h _ _ (by omega) (by omega)]
theorem ExOk.call {t : Bd} {g : Af} (h85 : t.op = 85) (hf : findA lb t.name = some g) (ha : ¬ 30 ≤ act) (h : ExOk ap lb (act + 1) g.body (envV g.params (argsV t.args vars) fun _ => none) c v1) : ExOk ap lb act [t] vars (c + 1) (setV vars t.to ((v1 g.result).getD zeroV)) :=
  ⟨by simp, fun D q hq hD => by
    rw [run_one (by omega) hD]
    unfold aBind
    rw [if_neg (by omega), if_pos h85, hf]
    dsimp only
    unfold aCall
    rw [if_neg ha, h.2 _ _ (by omega) (by omega)]
    dsimp only
    congr 1
    omega⟩
theorem ExErr.call {t : Bd} {g : Af} (h85 : t.op = 85) (hf : findA lb t.name = some g) (ha : ¬ 30 ≤ act) (h : ExErr ap lb (act + 1) g.body (envV g.params (argsV t.args vars) fun _ => none) c e) : ExErr ap lb act [t] vars (c + 1) e := fun D q hq hD => by
  rw [run_one (by omega) hD]
  unfold aBind
  rw [if_neg (by omega), if_pos h85, hf]
  dsimp only
  unfold aCall
  rw [if_neg ha, h _ _ (by omega) (by omega)]
theorem ExErr.deep {t : Bd} {g : Af} (h85 : t.op = 85) (hf : findA lb t.name = some g) (ha : 30 ≤ act) : ExErr ap lb act [t] vars 1 19 := fun D q hq hD => by
  rw [run_one (by omega) hD]
  unfold aBind
  rw [if_neg (by omega), if_pos h85, hf]
  dsimp only
  unfold aCall
  rw [if_pos ha]
end

/-! ### What is related -/
/-- Variables, and the temporaries that have their values. -/
def Rl (te : ByteArray → Option Bool) (env : ByteArray → Option Pm) (ee vars : Ev) (n : Nat) : Prop := ∀ s t, te s = some t → ∃ p v v', env s = some p ∧ ee s = some v ∧ vars p.name = some v' ∧ VR t v v' ∧ ∀ j, n ≤ j → p.name ≠ tmpN j
def OffV (a b : Nat) (vars vars' : Ev) : Prop := ∀ s, (∀ j, a ≤ j → j < b → s ≠ tmpN j) → vars' s = vars s
theorem OffV.refl (a b : Nat) (vars : Ev) : OffV a b vars vars := fun _ _ => rfl
theorem OffV.trans {a b c d m n : Nat} {v0 v1 v2 : Ev} (h1 : OffV a b v0 v1) (h2 : OffV c d v1 v2) (hm1 : m ≤ a) (hm2 : m ≤ c) (hn1 : b ≤ n) (hn2 : d ≤ n) : OffV m n v0 v2 := fun s hs => by
  rw [h2 s (fun j h h' => hs j (by omega) (by omega)), h1 s (fun j h h' => hs j (by omega) (by omega))]
theorem OffV.mono {a b m n : Nat} {v0 v1 : Ev} (h1 : OffV a b v0 v1) (hm : m ≤ a) (hn : b ≤ n) : OffV m n v0 v1 := fun s hs => h1 s (fun j h h' => hs j (by omega) (by omega))
theorem OffV.set (vars : Ev) (n : Nat) (v : Vl) : OffV n (n + 1) vars (setV vars (tmpN n) v) := fun s hs => by
  unfold setV; rw [if_neg (hs n (Nat.le_refl _) (by omega))]
theorem Rl.keep {te : ByteArray → Option Bool} {env : ByteArray → Option Pm} {ee vars vars' : Ev} {n m : Nat} (h : Rl te env ee vars n) (ho : OffV n m vars vars') (hn : n ≤ m) : Rl te env ee vars' m := fun s t ht => by
  obtain ⟨p, v, v', h1, h2, h3, h4, h5⟩ := h s t ht
  exact ⟨p, v, v', h1, h2, by rw [ho _ (fun j hj _ => h5 j hj)]; exact h3, h4, fun j hj => h5 j (by omega)⟩
theorem Rl.up {te : ByteArray → Option Bool} {env : ByteArray → Option Pm} {ee vars : Ev} {n m : Nat} (h : Rl te env ee vars n) (hn : n ≤ m) : Rl te env ee vars m := h.keep (OffV.refl _ _ _) hn
theorem Rl.set {te : ByteArray → Option Bool} {env : ByteArray → Option Pm} {ee vars : Ev} {n : Nat} (h : Rl te env ee vars n) {t : Bool} {p : Pm} {v v' : Vl} (hp : vars p.name = some v') (hv : VR t v v') (hf : ∀ j, n ≤ j → p.name ≠ tmpN j) (s : ByteArray) : Rl (setE te s (some t)) (setP env s (some p)) (setV ee s v) vars n := fun q u hq => by
  unfold setE at hq
  unfold setP setV
  by_cases e : q = s
  · rw [if_pos e] at hq; cases hq
    exact ⟨p, v, v', if_pos e, if_pos e, hp, hv, hf⟩
  · rw [if_neg e] at hq
    obtain ⟨p1, v1, v1', h1, h2, h3⟩ := h q u hq
    exact ⟨p1, v1, v1', by rw [if_neg e]; exact h1, by rw [if_neg e]; exact h2, h3⟩
theorem VR.clnL {t : Bool} {a b : Vl} (h : VR t a b) : VR t (Go.Proofs.YtcoeakdpcigogaaDoor.cln a) b := by
  unfold Go.Proofs.YtcoeakdpcigogaaDoor.cln
  rw [h.a1]
  cases t with
  | true => rw [if_pos rfl]; exact ⟨rfl, h.b1, h.l, fun e => by cases e⟩
  | false => rw [if_neg (by simp)]; exact ⟨rfl, h.b1, (fun e => by cases e), h.n⟩
def nmB (x : Nd) : Nat := if namesT x = true then 1 else 0
theorem nmB_no {x : Nd} (h1 : x.kind ≠ 84) (h2 : x.kind ≠ 81) : nmB x = 0 := by
  unfold nmB; rw [namesT_eq, if_neg h1, decide_eq_false h2]; simp

def SimO (ap : Int → Int → Int → Int × Int) (lb : List Af) (act : Nat) (ty : Bool) (o : Out) (f nm : Nat) (ts : List Pm) (r : Nr) (vars : Ev) : Prop :=
  match o with
  | .err e => e = 18 ∨ ∃ c, c ≤ 2 * f ∧ ExErr ap lb act r.bs vars c e
  | .ok v f' _ => ∃ c vars', f' ≤ f ∧ c + nm ≤ 2 * (f - f') ∧ ExOk ap lb act r.bs vars c vars' ∧ (∃ v', vars' r.p.name = some v' ∧ VR ty v v') ∧ OffV ts.length r.ts.length vars vars' ∧ ∀ j, r.ts.length ≤ j → r.p.name ≠ tmpN j
def SimA (ap : Int → Int → Int → Int × Int) (lb : List Af) (act : Nat) (tys : List Bool) (o : OutL) (f : Nat) (ts : List Pm) (r : Na) (vars : Ev) : Prop :=
  match o with
  | .err e => e = 18 ∨ ∃ c, c ≤ 2 * f ∧ ExErr ap lb act r.bs vars c e
  | .ok vs f' _ => ∃ c vars', f' ≤ f ∧ c ≤ 2 * (f - f') ∧ ExOk ap lb act r.bs vars c vars' ∧ VRs tys vs (argsV r.args vars') ∧ OffV ts.length r.ts.length vars vars' ∧ ∀ a ∈ r.args, ∀ j, r.ts.length ≤ j → a ≠ tmpN j
theorem SimO.pre {ap : Int → Int → Int → Int × Int} {lb : List Af} {act : Nat} {ty : Bool} {o : Out} {f nm : Nat} {ts : List Pm} {r : Nr} {vars : Ev} (h : SimO ap lb act ty o f nm ts r vars) (c : List Tr) : SimO ap lb act ty (o.pre c) f nm ts r vars := by
  cases o <;> exact h
theorem arg_sim {ap : Int → Int → Int → Int × Int} {lb : List Af} {act : Nat} {ty : Bool} {o : Out} {f : Nat} {ts : List Pm} {r : Nr} {vars : Ev} {y : Nd} (h : SimO ap lb act ty o f (nmB y) ts r vars) (hl : ts.length ≤ r.ts.length) (call : Bool) : SimO ap lb act ty o f 0 ts (Nr.arg call y r) vars := by
  unfold Nr.arg
  by_cases hc : call = true ∧ namesT y = true
  · rw [if_pos hc]
    have hn : nmB y = 1 := by unfold nmB; rw [if_pos hc.2]
    cases o with
    | err e =>
      rcases h with h | ⟨c, h1, h2⟩
      · exact .inl h
      · exact .inr ⟨c, h1, h2.app1⟩
    | ok v f' tr =>
      obtain ⟨c, vars', h1, h2, h3, ⟨v', h4, h5⟩, h6, h7⟩ := h
      have hs := ExOk.op (ap := ap) (lb := lb) (act := act) (vars := vars') (t := .mk (tmpN r.ts.length) r.p.list 81 0 eS [r.p.name] [] []) (show (81 : Nat) ≠ 83 by decide) (show (81 : Nat) ≠ 85 by decide) rfl
      have e1 : (opA ap 81 0 (argsV [r.p.name] vars')).1 = v' := by
        show (((argsV [r.p.name] vars')[0]?).getD zeroV) = v'
        show (vars' r.p.name).getD zeroV = v'
        rw [h4]; rfl
      have hlen : (r.ts ++ [(⟨tmpN r.ts.length, r.p.list⟩ : Pm)]).length = r.ts.length + 1 := by simp
      have hs' : ExOk ap lb act [.mk (tmpN r.ts.length) r.p.list 81 0 eS [r.p.name] [] []] vars' 1 (setV vars' (tmpN r.ts.length) v') := by rw [← e1]; exact hs
      refine ⟨c + 1, _, h1, by omega, h3.app hs', ⟨v', ?_, h5⟩, ?_, fun j hj e => ?_⟩
      · show setV vars' (tmpN r.ts.length) v' (tmpN r.ts.length) = _
        unfold setV; rw [if_pos rfl]
      · show OffV ts.length (r.ts ++ [(⟨tmpN r.ts.length, r.p.list⟩ : Pm)]).length vars _
        rw [hlen]
        exact h6.trans (OffV.set _ _ _) (Nat.le_refl _) hl (by omega) (Nat.le_refl _)
      · have hj' : (r.ts ++ [(⟨tmpN r.ts.length, r.p.list⟩ : Pm)]).length ≤ j := hj
        have e' : tmpN r.ts.length = tmpN j := e
        have := tmpN_inj e'
        omega
  · rw [if_neg hc]
    cases o with
    | err e => exact h
    | ok v f' tr =>
      obtain ⟨c, vars', h1, h2, h3⟩ := h
      exact ⟨c, vars', h1, by omega, h3⟩
theorem arg_ln {ts : List Pm} {r : Nr} (h : ts.length ≤ r.ts.length) (call : Bool) (y : Nd) : ts.length ≤ (Nr.arg call y r).ts.length := by
  unfold Nr.arg
  split
  · show ts.length ≤ (r.ts ++ [(⟨tmpN r.ts.length, r.p.list⟩ : Pm)]).length
    simp; omega
  · exact h
theorem args_sim {ap : Int → Int → Int → Int × Int} {lib : List Fn1} {lb : List Af} {act : Nat} {te : ByteArray → Option Bool} {env : ByteArray → Option Pm} {ee : Ev} {E : Nd → Nat → Out} {T : Nd → Bool} (call : Bool) : ∀ (l : List Nd), (∀ y ∈ l, ∀ (f : Nat) (ts : List Pm) (vars : Ev), Rl te env ee vars ts.length → SimO ap lb act (T y) (E y f) f (nmB y) ts (nE lib y env ts) vars) → ∀ (f : Nat) (ts : List Pm) (vars : Ev), Rl te env ee vars ts.length → SimA ap lb act (l.map T) (evL E l f) f ts (nArgs lib call l env ts) vars
  | [], _, f, ts, vars, _ => by
    rw [evL, nArgs]
    exact ⟨0, vars, Nat.le_refl _, by omega, ExOk.nil, .nil, OffV.refl _ _ _, fun a ha => by cases ha⟩
  | y :: r, hG, f, ts, vars, hR => by
    have l1 := (nE_vs lib y env ts).ln
    have h1 := arg_sim (hG y (by simp) f ts vars hR) l1 call
    have l2 := arg_ln l1 call y
    rw [evL, nArgs]
    generalize Nr.arg call y (nE lib y env ts) = x at *
    have l3 := (nArgs_vs lib call r env x.ts).ln
    have ih := fun f1 vars1 => args_sim call r (fun z hz => hG z (by simp [hz])) f1 x.ts vars1
    generalize nArgs lib call r env x.ts = z at *
    cases hE : E y f with
    | err e =>
      rw [hE] at h1
      rcases h1 with h | ⟨c, k1, k2⟩
      · exact .inl h
      · exact .inr ⟨c, k1, k2.app1⟩
    | ok v f1 c1 =>
      rw [hE] at h1
      obtain ⟨c, vars1, k1, k2, k3, ⟨v', k4, k5⟩, k6, k7⟩ := h1
      have h2 := ih f1 vars1 (hR.keep k6 l2)
      dsimp only
      cases hL : evL E r f1 with
      | err e =>
        rw [hL] at h2
        rcases h2 with h | ⟨d, j1, j2⟩
        · exact .inl h
        · exact .inr ⟨c + d, by omega, ExErr.app2 k3 j2⟩
      | ok vs f2 c2 =>
        rw [hL] at h2
        obtain ⟨d, vars2, j1, j2, j3, j4, j5, j6⟩ := h2
        refine ⟨c + d, vars2, by omega, by omega, k3.app j3, ?_, k6.trans j5 (Nat.le_refl _) l2 l3 (Nat.le_refl _), fun a ha j hj => ?_⟩
        · have e : argsV (x.p.name :: z.args) vars2 = v' :: argsV z.args vars2 := by
            show ((vars2 x.p.name).getD zeroV) :: argsV z.args vars2 = _
            rw [j5 _ (fun j hj _ => k7 j hj), k4]; rfl
          show VRs (T y :: r.map T) (v :: vs) (argsV (x.p.name :: z.args) vars2)
          rw [e]
          exact .cons k5 j4
        · have hj' : z.ts.length ≤ j := hj
          rcases List.mem_cons.1 (show a ∈ x.p.name :: z.args from ha) with e | e
          · rw [e]; exact k7 j (by omega)
          · exact j6 a e j hj'
theorem Rl.start {ps : List Pm} {us vs : List Vl} (h : VRs (ps.map Pm.list) us vs) (hn : ∀ p ∈ ps, nameB p.name = true) : Rl (envF ps) (envP ps) (envV ps us fun _ => none) (envV ps vs fun _ => none) 0 := fun s t ht => by
  obtain ⟨a, b, e1, e2, hv⟩ := envF_er h s t ht
  obtain ⟨q1, q2, q3⟩ := envs_P ps s
  cases hp : envP ps s with
  | none => rw [hp, ht] at q2; cases q2
  | some p =>
    have hs := q3 p hp
    refine ⟨p, a, b, rfl, e1, by rw [hs]; exact e2, hv, fun j _ e => ?_⟩
    have hm : s ∈ ps.map Pm.name := Classical.byContradiction fun hm => by
      rw [q1, scP_out hm] at ht; cases ht
    obtain ⟨p', hp', e'⟩ := List.mem_map.1 hm
    have := hn p' hp'
    rw [e', ← hs, e, tmpN_name] at this
    cases this
theorem findA_norm {lib : List Fn1} (L : List Fn1) {s : ByteArray} {g : Fn1} (h0 : 0 ≤ findF lib s 0) (hg : lib[(findF lib s 0).toNat]? = some g) : findA (lib.map (normF L)) s = some (normF L g) := by
  have key : ∀ (l : List Fn1) (k : Nat), 0 ≤ findF l s k → ∀ g, l[((findF l s k) - k).toNat]? = some g → findA (l.map (normF L)) s = some (normF L g) := by
    intro l
    induction l with
    | nil => intro k h; rw [findF] at h; omega
    | cons f r ih =>
      intro k h g hg
      by_cases e : (f.name.toList == s.toList) = true
      · rw [findF_hit e] at hg
        rw [show ((k : Int) - k).toNat = 0 by omega] at hg
        simp at hg
        subst hg
        have e2 := beq_iff_eq.1 e
        rw [ByteArray.toList_eq, ByteArray.toList_eq] at e2
        have e3 : f.name = s := by
          rw [ByteArray.ext_iff]; exact Array.toList_inj.1 e2
        unfold findA
        rw [List.map_cons, List.find?_cons_of_pos (by simp [normF, e3])]
      · rw [findF_miss e] at h hg
        have h1 : (k + 1 : Nat) ≤ findF r s (k + 1) := by
          rcases findF_range s r (k + 1) with q | ⟨i, _, q, _⟩
          · omega
          · omega
        rw [show (findF r s (k + 1) - k).toNat = (findF r s (k + 1) - (k + 1 : Nat)).toNat + 1 by omega, List.getElem?_cons_succ] at hg
        have := ih (k + 1) h g hg
        unfold findA at this ⊢
        rw [List.map_cons, List.find?_cons_of_neg (by
          intro e3; exact e (by rw [show f.name = s from of_decide_eq_true e3]; simp))]
        exact this
  exact key lib 0 h0 g (by rw [show (findF lib s 0 - (0 : Nat)).toNat = (findF lib s 0).toNat by omega]; exact hg)
theorem put_ok {ap : Int → Int → Int → Int × Int} {lb : List Af} {act : Nat} {ty : Bool} {v : Vl} {f f1 f2 : Nat} {tr : List Tr} {ts : List Pm} {r : Na} {vars vars1 : Ev} {c d : Nat} {l : Bool} {op : Nat} {num : Int} {nm : ByteArray} {v' : Vl} (h1 : f1 + 1 ≤ f) (h2 : c ≤ 2 * (f - 1 - f1)) (h3 : ExOk ap lb act r.bs vars c vars1) (h4 : OffV ts.length r.ts.length vars vars1) (hl : ts.length ≤ r.ts.length) (hs : ExOk ap lb act [.mk (tmpN r.ts.length) l op num nm r.args [] []] vars1 (d + 1) (setV vars1 (tmpN r.ts.length) v')) (h5 : f2 ≤ f1) (h6 : d ≤ 2 * (f1 - f2)) (hv : VR ty v v') : SimO ap lb act ty (.ok v f2 tr) f 0 ts (.put r.bs l r.ts op num nm r.args) vars := by
  have hlen : (r.ts ++ [(⟨tmpN r.ts.length, l⟩ : Pm)]).length = r.ts.length + 1 := by simp
  refine ⟨c + (d + 1), _, by omega, by omega, h3.app hs, ⟨v', ?_, hv⟩, ?_, fun j hj e => ?_⟩
  · show setV vars1 (tmpN r.ts.length) v' (tmpN r.ts.length) = _
    unfold setV; rw [if_pos rfl]
  · show OffV ts.length (r.ts ++ [(⟨tmpN r.ts.length, l⟩ : Pm)]).length vars _
    rw [hlen]
    exact h4.trans (OffV.set _ _ _) (Nat.le_refl _) hl (by omega) (Nat.le_refl _)
  · have hj' : (r.ts ++ [(⟨tmpN r.ts.length, l⟩ : Pm)]).length ≤ j := hj
    have e' : tmpN r.ts.length = tmpN j := e
    have := tmpN_inj e'
    omega

end Go.Proofs.YtcoeakdpcigogaaDoor

namespace Go.Proofs.YtcoeakdpcigogaaDoor

theorem form80 {x : Nd} (h : formB x.kind x.num x.name x.kids.length = true) (h80 : x.kind = 80) : x.kids = [] := by
  unfold formB at h
  rw [h80] at h
  simp at h
  exact h.2
set_option maxHeartbeats 1000000 in
theorem sim {ap : Int → Int → Int → Int × Int} {lib : List Fn1} (hv : (validR lib).2 = 0) : ∀ (d act : Nat) (te : ByteArray → Option Bool) (env : ByteArray → Option Pm) (ee : Ev) (x : Nd) (f : Nat) (ty : Bool) (ts : List Pm) (vars : Ev), formT x = true → chkT lib x te = (ty, 0) → Rl te env ee vars ts.length → SimO ap (normL lib) act ty (ev ap lib d act ee x f) f (nmB x) ts (nE lib x env ts) vars
  | 0, _, _, _, _, _, _, _, _, _, _, _, _ => .inl rfl
  | d + 1, act, te, env, ee, x, f, ty, ts, vars, hf, hc, hR => by
    have ih := sim (ap := ap) hv d
    rw [formT_eq] at hf
    obtain ⟨hb, hkids⟩ := Bool.and_eq_true_iff.1 hf
    have hkid := formT_kid hkids
    obtain ⟨l82, l83, l84, hk⟩ := form_len hb
    obtain ⟨c1, c2, c3, c4⟩ := chkT_ok hc
    rw [ev]
    by_cases h0 : f = 0
    · rw [if_pos h0]; exact .inl rfl
    rw [if_neg h0]
    by_cases h80 : x.kind = 80
    · rw [if_pos h80, nE_op (by omega) (by omega) (by omega) (by omega), form80 hb h80, nArgs, nmB_no (by omega) (by omega)]
      have hty := (c4 (by omega)).2
      unfold wantR at hty
      rw [if_neg (by omega), if_neg (by omega), if_neg (by omega), if_neg (by omega), if_neg (by omega), if_neg (by omega), if_neg (by omega), if_neg (by omega)] at hty
      have hs := ExOk.op (ap := ap) (lb := normL lib) (act := act) (vars := vars) (t := .mk (tmpN ts.length) (listK x.kind) x.kind x.num eS [] [] []) (show x.kind ≠ 83 by omega) (show x.kind ≠ 85 by omega) (by show (opA ap x.kind x.num (argsV [] vars)).2 = 0; unfold opA; rw [if_pos h80])
      have e1 : (opA ap x.kind x.num (argsV [] vars)).1 = ⟨false, x.num, []⟩ := by unfold opA; rw [if_pos h80]
      have hs' : ExOk ap (normL lib) act [.mk (tmpN ts.length) (listK x.kind) x.kind x.num eS [] [] []] vars (0 + 1) (setV vars (tmpN ts.length) ⟨false, x.num, []⟩) := by rw [← e1]; exact hs
      exact put_ok (r := ⟨[], [], ts⟩) (c := 0) (d := 0) (f1 := f - 1) (f2 := f - 1) (by omega) (by omega) ExOk.nil (OffV.refl _ _ _) (Nat.le_refl _) hs' (Nat.le_refl _) (by omega) (by rw [hty]; exact VR.num _ _ _)
    rw [if_neg h80]
    by_cases h81 : x.kind = 81
    · rw [if_pos h81, nE_81 h81]
      unfold reachE at c1
      rw [if_pos h81] at c1
      have c3 := c3 h81
      cases ht : te x.name with
      | none => rw [ht] at c1; cases c1
      | some t =>
        rw [ht] at c3
        obtain ⟨p, v, v', e1, e2, e3, e4, e5⟩ := hR x.name t ht
        rw [e1, e2, c3]
        refine ⟨0, vars, by omega, ?_, ExOk.nil, ⟨v', e3, e4⟩, OffV.refl _ _ _, e5⟩
        unfold nmB
        split <;> omega
    rw [if_neg h81]
    obtain ⟨c5, c6⟩ := c4 h81
    by_cases h83 : x.kind = 83
    · rw [if_pos h83, nE_83 h83, nmB_no (by omega) h81]
      obtain ⟨k1, k2⟩ := chkTL_ok (show x.kind ≠ 84 by omega) _ _ _ c2
      obtain ⟨y0, y1, y2, e⟩ := three (l83 h83)
      rw [k1] at c5 c6
      unfold wantR at c5 c6
      rw [if_neg (by omega), if_pos h83] at c5 c6
      rw [e] at c5 c6 k2 hkid
      simp only [List.nil_append, List.map_cons, List.map_nil, List.getD_cons_succ, List.getD_cons_zero] at c5 c6
      have q0 : (chkT lib y0 te).1 = false := by injection c5
      have q2 : (chkT lib y2 te).1 = (chkT lib y1 te).1 := by injection c5 with _ q; injection q with _ q; injection q
      have n0 : kidN x 0 = y0 := by unfold kidN; rw [e]; rfl
      have n1 : kidN x 1 = y1 := by unfold kidN; rw [e]; rfl
      have n2 : kidN x 2 = y2 := by unfold kidN; rw [e]; rfl
      rw [n0, e, nIf]
      have a0 := ih act te env ee y0 (f - 1) false ts vars (hkid y0 (by simp)) (Prod.ext q0 (k2 y0 (by simp))) hR
      have g0 := (nE_vs lib y0 env ts).ln
      have ih1 := fun f1 ts1 vars1 => ih act te env ee y1 f1 ty ts1 vars1 (hkid y1 (by simp)) (Prod.ext (by rw [c6]) (k2 y1 (by simp)))
      have ih2 := fun f1 ts1 vars1 => ih act te env ee y2 f1 ty ts1 vars1 (hkid y2 (by simp)) (Prod.ext (by rw [q2, c6]) (k2 y2 (by simp)))
      generalize nE lib y0 env ts = r at *
      have g1 := (nE_vs lib y1 env (r.ts ++ [⟨tmpN r.ts.length, false⟩])).ln
      have ih1 := fun f1 vars1 => ih1 f1 (r.ts ++ [⟨tmpN r.ts.length, false⟩]) vars1
      generalize nE lib y1 env (r.ts ++ [⟨tmpN r.ts.length, false⟩]) = p at *
      have g2 := (nE_vs lib y2 env (setL p.ts r.ts.length p.p.list)).ln
      have ih2 := fun f1 vars1 => ih2 f1 (setL p.ts r.ts.length p.p.list) vars1
      have gL : (setL p.ts r.ts.length p.p.list).length = p.ts.length := by unfold setL; simp
      rw [List.length_append, List.length_singleton] at g1 ih1
      rw [gL] at g2 ih2
      generalize nE lib y2 env (setL p.ts r.ts.length p.p.list) = q at *
      have gM : (setL q.ts r.ts.length q.p.list).length = q.ts.length := by unfold setL; simp
      cases hE : ev ap lib d act ee y0 (f - 1) with
      | err e =>
        rw [hE] at a0
        rcases a0 with h | ⟨c, k1, k2⟩
        · exact .inl h
        · exact .inr ⟨c, by omega, k2.app1⟩
      | ok v f1 tr =>
        rw [hE] at a0
        obtain ⟨c, vars1, j1, j2, j3, ⟨v', j4, j5⟩, j6, j7⟩ := a0
        show SimO ap (normL lib) act ty ((ev ap lib d act ee (kidN x (if v.n ≠ 0 then 1 else 2)) f1).pre tr) f 0 ts _ vars
        refine SimO.pre ?_ tr
        have hR1 := hR.keep j6 (by omega : ts.length ≤ r.ts.length)
        have hcond : (((argsV [r.p.name] vars1)[0]?).getD zeroV).n = v.n := by
          show ((vars1 r.p.name).getD zeroV).n = v.n
          rw [j4, j5.n rfl]; rfl
        by_cases hn : v.n ≠ 0
        · rw [if_pos hn, n1]
          have a1 := ih1 f1 vars1 (hR1.up (by omega))
          have hbr : (if (((argsV [r.p.name] vars1)[0]?).getD zeroV).n ≠ 0 then (p.bs ++ [.mk (tmpN r.ts.length) p.p.list 81 0 eS [p.p.name] [] []] : List Bd) else (q.bs ++ [.mk (tmpN r.ts.length) q.p.list 81 0 eS [q.p.name] [] []])) = p.bs ++ [.mk (tmpN r.ts.length) p.p.list 81 0 eS [p.p.name] [] []] := by
            rw [hcond, if_pos hn]
          cases hE1 : ev ap lib d act ee y1 f1 with
          | err e =>
            rw [hE1] at a1
            rcases a1 with h | ⟨c', k1, k2⟩
            · exact .inl h
            · exact .inr ⟨c + (c' + 1), by omega, ExErr.app2 j3 (ExErr.ifb rfl hbr k2.app1)⟩
          | ok u f2 tr2 =>
            rw [hE1] at a1
            obtain ⟨c', vars2, i1, i2, i3, ⟨u', i4, i5⟩, i6, i7⟩ := a1
            have hs := ExOk.op (ap := ap) (lb := normL lib) (act := act) (vars := vars2) (t := .mk (tmpN r.ts.length) p.p.list 81 0 eS [p.p.name] [] []) (show (81 : Nat) ≠ 83 by decide) (show (81 : Nat) ≠ 85 by decide) rfl
            have e1 : (opA ap 81 0 (argsV [p.p.name] vars2)).1 = u' := by
              show (vars2 p.p.name).getD zeroV = u'
              rw [i4]; rfl
            have hs' : ExOk ap (normL lib) act [.mk (tmpN r.ts.length) p.p.list 81 0 eS [p.p.name] [] []] vars2 1 (setV vars2 (tmpN r.ts.length) u') := by rw [← e1]; exact hs
            refine ⟨c + (c' + 1 + 1), _, by omega, by omega, j3.app (ExOk.ifb rfl hbr (i3.app hs')), ⟨u', ?_, i5⟩, ?_, fun j hj e => ?_⟩
            · show setV vars2 (tmpN r.ts.length) u' (tmpN r.ts.length) = _
              unfold setV; rw [if_pos rfl]
            · show OffV ts.length (setL q.ts r.ts.length q.p.list).length vars _
              rw [gM]
              have o1 : OffV r.ts.length q.ts.length vars1 vars2 := i6.mono (by simp) g2
              exact (j6.mono (n := q.ts.length) (Nat.le_refl _) (by omega)).trans (o1.trans (OffV.set _ _ _) (Nat.le_refl _) (Nat.le_refl _) (Nat.le_refl _) (by omega)) (Nat.le_refl _) g0 (Nat.le_refl _) (Nat.le_refl _)
            · have hj' : (setL q.ts r.ts.length q.p.list).length ≤ j := hj
              have e' : tmpN r.ts.length = tmpN j := e
              have := tmpN_inj e'
              omega
        · rw [if_neg hn, n2]
          have a1 := ih2 f1 vars1 (hR1.up (by omega))
          have hbr : (if (((argsV [r.p.name] vars1)[0]?).getD zeroV).n ≠ 0 then (p.bs ++ [.mk (tmpN r.ts.length) p.p.list 81 0 eS [p.p.name] [] []] : List Bd) else (q.bs ++ [.mk (tmpN r.ts.length) q.p.list 81 0 eS [q.p.name] [] []])) = q.bs ++ [.mk (tmpN r.ts.length) q.p.list 81 0 eS [q.p.name] [] []] := by
            rw [hcond, if_neg hn]
          cases hE1 : ev ap lib d act ee y2 f1 with
          | err e =>
            rw [hE1] at a1
            rcases a1 with h | ⟨c', k1, k2⟩
            · exact .inl h
            · exact .inr ⟨c + (c' + 1), by omega, ExErr.app2 j3 (ExErr.ifb rfl hbr k2.app1)⟩
          | ok u f2 tr2 =>
            rw [hE1] at a1
            obtain ⟨c', vars2, i1, i2, i3, ⟨u', i4, i5⟩, i6, i7⟩ := a1
            have hs := ExOk.op (ap := ap) (lb := normL lib) (act := act) (vars := vars2) (t := .mk (tmpN r.ts.length) q.p.list 81 0 eS [q.p.name] [] []) (show (81 : Nat) ≠ 83 by decide) (show (81 : Nat) ≠ 85 by decide) rfl
            have e1 : (opA ap 81 0 (argsV [q.p.name] vars2)).1 = u' := by
              show (vars2 q.p.name).getD zeroV = u'
              rw [i4]; rfl
            have hs' : ExOk ap (normL lib) act [.mk (tmpN r.ts.length) q.p.list 81 0 eS [q.p.name] [] []] vars2 1 (setV vars2 (tmpN r.ts.length) u') := by rw [← e1]; exact hs
            refine ⟨c + (c' + 1 + 1), _, by omega, by omega, j3.app (ExOk.ifb rfl hbr (i3.app hs')), ⟨u', ?_, i5⟩, ?_, fun j hj e => ?_⟩
            · show setV vars2 (tmpN r.ts.length) u' (tmpN r.ts.length) = _
              unfold setV; rw [if_pos rfl]
            · show OffV ts.length (setL q.ts r.ts.length q.p.list).length vars _
              rw [gM]
              have o1 : OffV r.ts.length q.ts.length vars1 vars2 := i6.mono (by rw [gL]; omega) (Nat.le_refl _)
              exact (j6.mono (n := q.ts.length) (Nat.le_refl _) (by omega)).trans (o1.trans (OffV.set _ _ _) (Nat.le_refl _) (Nat.le_refl _) (Nat.le_refl _) (by omega)) (Nat.le_refl _) g0 (Nat.le_refl _) (Nat.le_refl _)
            · have hj' : (setL q.ts r.ts.length q.p.list).length ≤ j := hj
              have e' : tmpN r.ts.length = tmpN j := e
              have := tmpN_inj e'
              omega
    rw [if_neg h83]
    by_cases h84 : x.kind = 84
    · rw [if_pos h84, nE_84 h84]
      obtain ⟨y0, y1, e⟩ := two (l84 h84)
      unfold wantR at c6
      rw [if_neg (by omega), if_neg (by omega), if_pos h84] at c6
      rw [e, h84] at c2 c6
      rw [e] at hkid
      rw [chkTL] at c2 c6
      have e0 : envAt 84 x.name te 0 [] = te := by unfold envAt; rw [if_neg (by omega)]
      rw [e0] at c2 c6
      by_cases g0 : (chkT lib y0 te).2 = 0
      rotate_left
      · rw [if_pos g0] at c2; exact absurd c2 g0
      rw [if_neg (fun e => e g0)] at c2 c6
      rw [chkTL] at c2 c6
      have e1 : envAt 84 x.name te (0 + 1) ([] ++ [(chkT lib y0 te).1]) = setE te x.name (some (chkT lib y0 te).1) := by unfold envAt; rw [if_pos ⟨rfl, rfl⟩]; rfl
      rw [e1] at c2 c6
      by_cases g1 : (chkT lib y1 (setE te x.name (some (chkT lib y0 te).1))).2 = 0
      rotate_left
      · rw [if_pos g1] at c2; exact absurd c2 g1
      rw [if_neg (fun e => e g1), chkTL] at c6
      have c6 : ty = (chkT lib y1 (setE te x.name (some (chkT lib y0 te).1))).1 := c6
      have n0 : kidN x 0 = y0 := by unfold kidN; rw [e]; rfl
      have n1 : kidN x 1 = y1 := by unfold kidN; rw [e]; rfl
      have hnm : nmB x = nmB y1 := by
        unfold nmB; rw [namesT_eq x, if_pos h84, e]
        show (if namesL [y0, y1] = true then 1 else 0) = _
        rw [namesL]
      rw [n0, n1, e, nLet, hnm]
      have a0 := ih act te env ee y0 (f - 1) _ ts vars (hkid y0 (by simp)) (Prod.ext rfl g0) hR
      have w0 := (nE_vs lib y0 env ts).ln
      generalize nE lib y0 env ts = p at *
      have w1 := (nE_vs lib y1 (setP env x.name (some p.p)) p.ts).ln
      have ih1 := fun f1 v vars1 (h : Rl (setE te x.name (some (chkT lib y0 te).1)) (setP env x.name (some p.p)) (setV ee x.name v) vars1 p.ts.length) => ih act (setE te x.name (some (chkT lib y0 te).1)) (setP env x.name (some p.p)) (setV ee x.name v) y1 f1 ty p.ts vars1 (hkid y1 (by simp)) (Prod.ext c6.symm g1) h
      generalize nE lib y1 (setP env x.name (some p.p)) p.ts = q at *
      cases hE : ev ap lib d act ee y0 (f - 1) with
      | err e =>
        rw [hE] at a0
        rcases a0 with h | ⟨c, k1, k2⟩
        · exact .inl h
        · exact .inr ⟨c, by omega, k2.app1⟩
      | ok v f1 tr =>
        rw [hE] at a0
        obtain ⟨c, vars1, j1, j2, j3, ⟨v', j4, j5⟩, j6, j7⟩ := a0
        show SimO ap (normL lib) act ty ((ev ap lib d act (setV ee x.name v) y1 f1).pre tr) f (nmB y1) ts _ vars
        refine SimO.pre ?_ tr
        have a1 := ih1 f1 v vars1 ((hR.keep j6 w0).set j4 j5 j7 x.name)
        cases hE1 : ev ap lib d act (setV ee x.name v) y1 f1 with
        | err e =>
          rw [hE1] at a1
          rcases a1 with h | ⟨c', k1, k2⟩
          · exact .inl h
          · exact .inr ⟨c + c', by omega, ExErr.app2 j3 k2⟩
        | ok u f2 tr2 =>
          rw [hE1] at a1
          obtain ⟨c', vars2, i1, i2, i3, i4, i6, i7⟩ := a1
          exact ⟨c + c', vars2, by omega, by omega, j3.app i3, i4, j6.trans i6 (Nat.le_refl _) w0 w1 (Nat.le_refl _), i7⟩
    rw [if_neg h84, nmB_no h84 h81]
    obtain ⟨k1, k2⟩ := chkTL_ok h84 _ _ _ c2
    rw [List.nil_append] at k1
    rw [k1] at c5 c6
    have hA := fun call => args_sim (lib := lib) (lb := normL lib) (ap := ap) (act := act) (te := te) (env := env) (ee := ee) (E := ev ap lib d act ee) (T := fun y => (chkT lib y te).1) call x.kids (fun y hy f1 ts1 vars1 hr => ih act te env ee y f1 _ ts1 vars1 (hkid y hy) (Prod.ext rfl (k2 y hy)) hr) (f - 1) ts vars hR
    by_cases h85 : x.kind = 85
    · rw [nE_85 h85]
      obtain ⟨p1, p2⟩ := reach85 c1 h85
      have hi : ∃ g, lib[(findF lib x.name 0).toNat]? = some g := by
        rcases findF_range x.name lib 0 with e | ⟨i, i1, i2, _⟩
        · rw [e] at p1; omega
        · exact ⟨lib[i], by rw [show (findF lib x.name 0).toNat = i by rw [i2]; omega]; exact List.getElem?_eq_getElem i1⟩
      obtain ⟨g, hgi⟩ := hi
      unfold wantR at c5 c6
      rw [if_neg (by omega), if_neg (by omega), if_neg (by omega), if_pos h85, hgi] at c5 c6
      have c5' : x.kids.map (fun y => (chkT lib y te).1) = g.params.map Pm.list := c5
      have c6' : ty = g.list := c6
      have a0 := hA true
      have w0 := (nArgs_vs lib true x.kids env ts).ln
      have hfa := findA_norm lib p1 hgi
      obtain ⟨_, _, _, o4, o5, _, _, o8⟩ := one_facts (valid_facts hv hgi)
      have hnames := (pm_facts o4).2.1
      generalize nArgs lib true x.kids env ts = r at *
      rw [hgi]
      cases hE : evL (ev ap lib d act ee) x.kids (f - 1) with
      | err e =>
        rw [hE] at a0
        rcases a0 with h | ⟨c, k1, k2⟩
        · exact .inl h
        · exact .inr ⟨c, by omega, k2.app1⟩
      | ok vs f1 tr =>
        rw [hE] at a0
        obtain ⟨c, vars1, j1, j2, j3, j4, j6, j7⟩ := a0
        show SimO ap (normL lib) act ty ((if x.kind = 85 then (enter lib (ev ap lib d) act (findF lib x.name 0) vs f1).out else opO ap x vs f1).pre tr) f 0 ts _ vars
        refine SimO.pre ?_ tr
        rw [if_pos h85]
        unfold enter
        by_cases h30 : 30 ≤ act
        · rw [if_pos h30]
          exact .inr ⟨c + 1, by omega, ExErr.app2 j3 (ExErr.deep (t := .mk (tmpN r.ts.length) g.list 85 0 x.name r.args [] []) rfl hfa h30)⟩
        rw [if_neg h30, hgi]
        dsimp only
        have hvs : VRs (g.params.map Pm.list) vs (argsV r.args vars1) := by rw [← c5']; exact j4
        have a1 := ih (act + 1) (envF g.params) (envP g.params) (envV g.params vs fun _ => none) g.body f1 g.list [] (envV g.params (argsV r.args vars1) fun _ => none) o5 o8 (Rl.start hvs hnames)
        cases hE1 : ev ap lib d (act + 1) (envV g.params vs fun _ => none) g.body f1 with
        | err e =>
          rw [hE1] at a1
          rcases a1 with h | ⟨c', k1, k2⟩
          · exact .inl h
          · exact .inr ⟨c + (c' + 1), by omega, ExErr.app2 j3 (ExErr.call (t := .mk (tmpN r.ts.length) g.list 85 0 x.name r.args [] []) rfl hfa h30 k2)⟩
        | ok u f2 tr2 =>
          rw [hE1] at a1
          obtain ⟨c', vars2, i1, i2, i3, ⟨u', i4, i5⟩, _, _⟩ := a1
          have hs := ExOk.call (t := .mk (tmpN r.ts.length) g.list 85 0 x.name r.args [] []) rfl hfa h30 i3
          have e1 : (vars2 (normF lib g).result).getD zeroV = u' := by
            show (vars2 (nE lib g.body (envP g.params) []).p.name).getD zeroV = u'
            rw [i4]; rfl
          rw [e1] at hs
          exact put_ok (by omega) (by omega) j3 j6 w0 hs i1 (by omega) (by rw [c6']; exact i5.clnL)
    · rw [nE_op h81 h83 h84 h85]
      have a0 := hA false
      have w0 := (nArgs_vs lib false x.kids env ts).ln
      generalize nArgs lib false x.kids env ts = r at *
      cases hE : evL (ev ap lib d act ee) x.kids (f - 1) with
      | err e =>
        rw [hE] at a0
        rcases a0 with h | ⟨c, k1, k2⟩
        · exact .inl h
        · exact .inr ⟨c, by omega, k2.app1⟩
      | ok vs f1 tr =>
        rw [hE] at a0
        obtain ⟨c, vars1, j1, j2, j3, j4, j6, j7⟩ := a0
        show SimO ap (normL lib) act ty ((if x.kind = 85 then (enter lib (ev ap lib d) act (findF lib x.name 0) vs f1).out else opO ap x vs f1).pre tr) f 0 ts _ vars
        refine SimO.pre ?_ tr
        rw [if_neg h85]
        have ho := opO_vr ap hk h80 h81 h83 h84 h85 c5 j4 f1
        rw [← c6] at ho
        have eA : opA ap x.kind x.num (argsV r.args vars1) = opR ap x.kind x.num (argsV r.args vars1) := by unfold opA; rw [if_neg h80, if_neg h81]
        unfold opO at ho ⊢
        by_cases q1 : (opR ap x.kind x.num vs).2 = 0
        · rw [if_pos q1] at ho ⊢
          by_cases q2 : (opR ap x.kind x.num (argsV r.args vars1)).2 = 0
          · rw [if_pos q2] at ho
            rcases ho with ⟨e, h1, _⟩ | ⟨u, u', f2, c2, h1, h2, h3⟩
            · cases h1
            · injection h1 with e1 e2 e3
              injection h2 with e4 e5 e6
              have hs := ExOk.op (ap := ap) (lb := normL lib) (act := act) (vars := vars1) (t := .mk (tmpN r.ts.length) (listK x.kind) x.kind x.num eS r.args [] []) h83 h85 (by show (opA ap x.kind x.num (argsV r.args vars1)).2 = 0; rw [eA]; exact q2)
              have hs' : ExOk ap (normL lib) act [.mk (tmpN r.ts.length) (listK x.kind) x.kind x.num eS r.args [] []] vars1 (0 + 1) (setV vars1 (tmpN r.ts.length) (opR ap x.kind x.num (argsV r.args vars1)).1) := by rw [← eA]; exact hs
              rw [e4] at hs'
              rw [e1]
              exact put_ok (by omega) (by omega) j3 j6 w0 hs' (Nat.le_refl _) (by omega) h3
          · rw [if_neg q2] at ho
            rcases ho with ⟨e, h1, _⟩ | ⟨u, u', f2, c2, _, h2, _⟩
            · cases h1
            · cases h2
        · rw [if_neg q1] at ho ⊢
          by_cases q2 : (opR ap x.kind x.num (argsV r.args vars1)).2 = 0
          · rw [if_pos q2] at ho
            rcases ho with ⟨e, _, h2⟩ | ⟨u, u', f2, c2, h1, _, _⟩
            · cases h2
            · cases h1
          · rw [if_neg q2] at ho
            rcases ho with ⟨e, h1, h2⟩ | ⟨u, u', f2, c2, h1, _, _⟩
            · injection h1 with e1
              injection h2 with e2
              have hs := ExErr.op (ap := ap) (lb := normL lib) (act := act) (vars := vars1) (t := .mk (tmpN r.ts.length) (listK x.kind) x.kind x.num eS r.args [] []) h83 h85 (by show (opA ap x.kind x.num (argsV r.args vars1)).2 ≠ 0; rw [eA]; exact q2)
              have hs' : ExErr ap (normL lib) act [.mk (tmpN r.ts.length) (listK x.kind) x.kind x.num eS r.args [] []] vars1 1 (opR ap x.kind x.num (argsV r.args vars1)).2 := by rw [← eA]; exact hs
              rw [e2] at hs'
              rw [e1]
              exact .inr ⟨c + 1, by omega, ExErr.app2 j3 hs'⟩
            · cases h1

/-! ### The whole -/
theorem tyA_all : ∀ (args : List Vl) (ps : List Pm), args.length = ps.length → (tyA args ps = true ↔ args.map Vl.list = ps.map Pm.list)
  | [], [], _ => by simp [tyA]
  | [], _ :: _, h => by simp at h
  | _ :: _, [], h => by simp at h
  | v :: vs, p :: ps, h => by
    rw [tyA, List.map_cons, List.map_cons]
    by_cases e : v.list = p.list
    · rw [if_pos e, tyA_all vs ps (by simpa using h), e]; simp
    · rw [if_neg e]; simp [e]
theorem vrs_self : ∀ (args : List Vl) (ps : List Pm), args.map Vl.list = ps.map Pm.list → longB args = false → VRs (ps.map Pm.list) args args
  | [], [], _, _ => .nil
  | [], _ :: _, h, _ => by simp at h
  | _ :: _, [], h, _ => by simp at h
  | v :: vs, p :: ps, h, hl => by
    rw [List.map_cons, List.map_cons] at h
    injection h with h1 h2
    unfold longB at hl
    rw [List.any_cons, Bool.or_eq_false_iff] at hl
    refine .cons ⟨h1, h1, fun e => ⟨rfl, ?_⟩, fun _ => rfl⟩ (vrs_self vs ps h2 hl.2)
    have := hl.1
    rw [h1, e] at this
    simp at this
    exact this
/-- The normalized function answers as the original one. -/
theorem agrees {lib : List Fn1} (hv : (validR lib).2 = 0) (name : ByteArray) (args : List Vl) (F : Int) (h18 : startR lib name args F ≠ .err 18) : (∃ e, startR lib name args F = .err e ∧ aEval apR (normL lib) name args (2 * F) = (e, zeroV)) ∨ ∃ t f, startR lib name args F = .ok t f ∧ aEval apR (normL lib) name args (2 * F) = (0, t.res) := by
  have hlb := libB_norm hv
  have hA : aEval apR (normL lib) name args (2 * F) = match findA (normL lib) name with
      | none => (21, zeroV)
      | some g =>
        if args.length ≠ g.params.length then (7, zeroV)
        else if tyA args g.params = false then (7, zeroV)
        else if longA args = true then (5, zeroV)
        else match aCall (aRun apR (normL lib) (2 * F).toNat) 0 g args (2 * F).toNat with
          | .err e => (e, zeroV)
          | .ok v _ => (0, cln v) := by
    unfold aEval
    rw [if_neg (by rw [hlb]; simp)]
    rfl
  have hS : startR lib name args F = if findF lib name 0 < 0 then .err 21 else match lib[(findF lib name 0).toNat]? with
      | none => .err 0
      | some fn => if args.length ≠ fn.params.length then .err 7 else if tyB args fn.params = false then .err 7 else if longB args = true then .err 5 else enter lib (ev apR lib F.toNat) 0 (findF lib name 0) args F.toNat := by
    unfold startR
    rw [if_neg (fun e => e hv)]
    rfl
  by_cases hf : findF lib name 0 < 0
  · rw [if_pos hf] at hS
    have hn : findA (normL lib) name = none := by
      unfold findA normL
      rw [List.find?_eq_none]
      intro g hg e
      obtain ⟨f, hf2, rfl⟩ := List.mem_map.1 hg
      obtain ⟨k, hk⟩ := List.getElem?_of_mem hf2
      have := (findF_le (k := 0) hk (of_decide_eq_true e)).1
      omega
    rw [hn] at hA
    exact .inl ⟨21, hS, hA⟩
  rw [if_neg hf] at hS
  obtain ⟨i, g, hi, hg⟩ := findF_some hf
  have hg' : lib[(findF lib name 0).toNat]? = some g := by rw [hi, Int.toNat_natCast]; exact hg
  have hfa : findA (normL lib) name = some (normF lib g) := findA_norm lib (by omega : 0 ≤ findF lib name 0) hg'
  rw [hg'] at hS
  rw [hfa] at hA
  dsimp only at hS hA
  rw [show (normF lib g).params = g.params from rfl] at hA
  by_cases hl : args.length = g.params.length
  rotate_left
  · rw [if_pos hl] at hS hA; exact .inl ⟨7, hS, hA⟩
  rw [if_neg (fun e => e hl)] at hS hA
  have hty := tyA_all args g.params hl
  by_cases ht : args.map Vl.list = g.params.map Pm.list
  rotate_left
  · have h1 : tyB args g.params = false := by unfold tyB; simpa using ht
    have h2 : tyA args g.params = false := by
      rw [Bool.eq_false_iff]; intro e; exact ht (hty.1 e)
    rw [if_pos h1] at hS
    rw [if_pos h2] at hA
    exact .inl ⟨7, hS, hA⟩
  have h1 : tyB args g.params = true := by unfold tyB; simpa using ht
  have h2 := hty.2 ht
  rw [if_neg (by rw [h1]; simp)] at hS
  rw [if_neg (by rw [h2]; simp)] at hA
  rw [show longA args = longB args from rfl] at hA
  by_cases hlong : longB args = true
  · rw [if_pos hlong] at hS hA; exact .inl ⟨5, hS, hA⟩
  rw [if_neg hlong] at hS hA
  rw [Bool.not_eq_true] at hlong
  obtain ⟨_, _, _, o4, o5, _, _, o8⟩ := one_facts (valid_facts hv hg)
  have a1 := sim (ap := apR) hv F.toNat 1 (envF g.params) (envP g.params) (envV g.params args fun _ => none) g.body F.toNat g.list [] (envV g.params args fun _ => none) o5 o8 (Rl.start (vrs_self args g.params ht hlong) (pm_facts o4).2.1)
  unfold enter at hS
  unfold aCall at hA
  rw [if_neg (by omega), hg'] at hS
  rw [if_neg (by omega)] at hA
  simp only [Nat.zero_add] at hS hA
  rw [show (normF lib g).body = (nE lib g.body (envP g.params) []).bs from rfl, show (normF lib g).params = g.params from rfl, show (normF lib g).result = (nE lib g.body (envP g.params) []).p.name from rfl] at hA
  cases hE1 : ev apR lib F.toNat 1 (envV g.params args fun _ => none) g.body F.toNat with
  | err e =>
    rw [hE1] at a1 hS
    dsimp only at hS
    rcases a1 with h | ⟨c, k1, k2⟩
    · exact absurd (by rw [hS, h]) h18
    · rw [k2 (2 * F).toNat (2 * F).toNat (by omega) (Nat.le_refl _)] at hA
      exact .inl ⟨e, hS, hA⟩
  | ok u f2 tr =>
    rw [hE1] at a1 hS
    dsimp only at hS
    obtain ⟨c, vars2, i1, i2, i3, ⟨u', i4, i5⟩, _, _⟩ := a1
    rw [i3.2 (2 * F).toNat (2 * F).toNat (by omega) (Nat.le_refl _)] at hA
    dsimp only at hA
    rw [i4] at hA
    refine .inr ⟨_, _, hS, ?_⟩
    rw [hA]
    show (0, cln u') = (0, cln u)
    rw [i5.cln]

end Go.Proofs.YtcoeakdpcigogaaDoor

namespace Go.Proofs.YtcoeakdpcigogaaDoor
open Go.ChangeShapes Go.WideShapes Go.ChangeAt Go.RowKit Go.Sort Go.Maps

/-- The error and the value of an outcome. -/
def outV : OutT → Int × Vl
  | .err e => (e, zeroV)
  | .ok t _ => (0, t.res)
theorem agrees_pos {lib : List Fn1} (hv : (validR lib).2 = 0) (name : ByteArray) (args : List Vl) (F : Int) (h18 : (outV (startR lib name args F)).1 ≠ 18) : aEval apR (normL lib) name args (2 * F) = outV (startR lib name args F) := by
  rcases agrees hv name args F (fun e => h18 (by rw [e]; rfl)) with ⟨e, h1, h2⟩ | ⟨t, f, h1, h2⟩
  · rw [h1, h2]; rfl
  · rw [h1, h2]; rfl
/-- Without fuel only the checks ahead of the evaluation answer otherwise. -/
theorem agrees_neg {lib : List Fn1} (hv : (validR lib).2 = 0) (name : ByteArray) (args : List Vl) (F : Int) (hF : F < 0) (h18 : (outV (startR lib name args F)).1 ≠ 18) : (∀ F', aEval apR (normL lib) name args F' = outV (startR lib name args F)) ∧ ∀ g, findA (normL lib) name = some g → args.length = g.params.length → tyA args g.params = true → longA args = true := by
  have hlb := libB_norm hv
  unfold startR at h18 ⊢
  unfold aEval
  rw [if_neg (fun e => e hv)] at h18 ⊢
  rw [hlb]
  by_cases hf : findF lib name 0 < 0
  · rw [if_pos hf]
    have hn : findA (normL lib) name = none := by
      unfold findA normL
      rw [List.find?_eq_none]
      intro g hg e
      obtain ⟨f, hf2, rfl⟩ := List.mem_map.1 hg
      obtain ⟨k, hk⟩ := List.getElem?_of_mem hf2
      have := (findF_le (k := 0) hk (of_decide_eq_true e)).1
      omega
    rw [hn]
    exact ⟨fun _ => rfl, fun g hg => by cases hg⟩
  rw [if_neg hf] at h18 ⊢
  obtain ⟨i, g, hi, hg⟩ := findF_some hf
  have hg' : lib[(findF lib name 0).toNat]? = some g := by rw [hi, Int.toNat_natCast]; exact hg
  have hfa := findA_norm lib (by omega : 0 ≤ findF lib name 0) hg'
  rw [hg'] at h18 ⊢
  rw [show findA (normL lib) name = some (normF lib g) from hfa]
  dsimp only at h18 ⊢
  by_cases hl : args.length = g.params.length
  rotate_left
  · rw [if_pos hl]
    exact ⟨fun F' => by rw [if_neg (by simp), if_pos (show args.length ≠ (normF lib g).params.length from hl)]; rfl, fun q hq h => by cases hq; exact absurd h hl⟩
  rw [if_neg (fun e => e hl)] at h18 ⊢
  have hty := tyA_all args g.params hl
  by_cases ht : args.map Vl.list = g.params.map Pm.list
  rotate_left
  · have h1 : tyB args g.params = false := by unfold tyB; simpa using ht
    have h2 : tyA args g.params = false := by
      rw [Bool.eq_false_iff]; intro e; exact ht (hty.1 e)
    rw [if_pos h1]
    exact ⟨fun F' => by rw [if_neg (by simp), if_neg (fun e => e hl), if_pos (show tyA args (normF lib g).params = false from h2)]; rfl, fun q hq _ h => by cases hq; rw [show tyA args (normF lib g).params = tyA args g.params from rfl, h2] at h; cases h⟩
  have h1 : tyB args g.params = true := by unfold tyB; simpa using ht
  have h2 := hty.2 ht
  rw [if_neg (by rw [h1]; simp)] at h18 ⊢
  by_cases hlong : longB args = true
  · rw [if_pos hlong]
    exact ⟨fun F' => by rw [if_neg (by simp), if_neg (fun e => e hl), if_neg (by rw [show tyA args (normF lib g).params = tyA args g.params from rfl, h2]; simp), if_pos (show longA args = true from hlong)]; rfl, fun _ _ _ _ => hlong⟩
  rw [if_neg hlong] at h18
  refine absurd ?_ h18
  unfold enter
  rw [if_neg (by omega), hg', show F.toNat = 0 by omega]
  dsimp only
  rw [ev]; rfl
theorem ret_out {o : OutT} {w : World} {e : Ending} {w' : World} (h : RetCall o w e w') : RetEv (outV o) w e w' := by
  obtain ⟨hb, ⟨n, rfl, _, rfl⟩ | ⟨t, f, rfl, hl, A, c, hi, rfl⟩⟩ := h
  · exact ⟨hb, by simp [outV, zeroV], none, 0, rfl, fun k x hk => by simp [outV, zeroV] at hk⟩
  · exact ⟨hb, hl, A, c, rfl, hi.at_⟩

set_option maxRecDepth 100000 in
set_option maxHeartbeats 8000000 in
theorem law_agrees {w : World} (lib : List Fn1) (A : Option Addr) (c : Nat) (hO : LibOp w A lib) (name : ByteArray) (args : List Vl) (Al : Option Addr) (cl : Nat) (hV : VlsX w (fun _ => False) Al args) (hal : args.length ≤ 9223372036854775807) (hvl : ∀ v ∈ args, v.l.length ≤ 9223372036854775807) (F : Int) (hF0 : -9223372036854775808 ≤ F) :
    Calls Tryd.prog 8 #[.slice A lib.length c, .string name, .slice Al args.length cl, .int .i64 F] w fun e w' => e = .returned (.bool true) ∧ Below w.heap.size w w' := by
  have HO := Lib.hid hO
  have HAW := Lib.hid (awake_any hO.W)
  have HD := Lib.hid (And.intro hV (And.intro hal hvl))
  clear hO hV hal hvl
  go_enter Tryd.func8, Tryd.ntmps8
  go_wp2_with fail
  refine HAW.out.mono ?_
  clear HAW
  rintro e w1 ⟨rfl, hb1⟩
  have HB1 := Lib.hid hb1
  have HSM := Lib.hid ((HO.out.below hb1).small c)
  clear hb1
  go_wp2_with fail
  refine HSM.out.mono ?_
  clear HSM
  rintro e w2 ⟨rfl, hb2⟩
  have HB2 := Lib.hid (below_step HB1.out HB1.out.size hb2)
  clear hb2
  cases hsm : smallB lib with
  | false =>
    rw [oneB_f rfl]
    go_wp2_with fail
    go_ret
    exact ⟨rfl, HB2.out⟩
  | true =>
    rw [oneB_t rfl]
    have HSB := Lib.hid hsm
    have HAR := Lib.hid (arguments_any args Al cl w2 (VlsX.le HD.out.1 (Le.of_fr (Fr.of_below HB2.out fun _ => False) (fun _ _ e => e.elim) fun _ _ e => e)) HD.out.2.1 HD.out.2.2)
    clear hsm
    go_wp2_with fail
    refine HAR.out.mono ?_
    clear HAR
    rintro e w3 ⟨rfl, hb3⟩
    have HB3 := Lib.hid (below_step HB2.out HB2.out.size hb3)
    clear hb3
    cases hag : argB args with
    | false =>
      rw [oneB_f rfl]
      go_wp2_with fail
      go_ret
      exact ⟨rfl, HB3.out⟩
    | true =>
      rw [oneB_t rfl]
      unfold argB at hag
      rw [Bool.and_eq_true] at hag
      have hal := of_decide_eq_true hag.1
      have HVL := Lib.hid (fun v hv => (of_decide_eq_true (List.all_eq_true.1 hag.2 v hv) : v.l.length ≤ 60))
      clear hag
      by_cases hF : 600 < F
      · go_wp2_with fail
        go_ret
        exact ⟨rfl, HB3.out⟩
      have HNZ := Lib.hid ((HO.out.below HB3.out).normalize HSB.out c)
      go_wp2_with fail
      refine HNZ.out.mono ?_
      clear HNZ
      rintro e w4 ⟨hb4, ⟨hv, rfl⟩ | ⟨hv, A4, c4, rfl, hA4⟩⟩
      · have HB4 := Lib.hid (below_step HB3.out HB3.out.size hb4)
        have hne : ((validR lib).2 != 0) = true := by simpa using hv
        clear hb4 hv
        generalize (validR lib).2 = ev at hne ⊢
        go_wp2_with fail
        go_ret
        exact ⟨rfl, HB4.out⟩
      · have HB4 := Lib.hid (below_step HB3.out HB3.out.size hb4)
        have HA4 := Lib.hid hA4
        have HFT := Lib.hid (norm_fit HO.out.F HSB.out hv)
        have HLN := Lib.hid (normL_len lib)
        have h8 := (small_facts HSB.out).1
        have HVS := Lib.hid (fun w' (hb' : Below w.heap.size w w') => (VlsX.le HD.out.1 (Le.of_fr (Fr.of_below hb' fun _ => False) (fun _ _ e => e.elim) fun _ _ e => e) : VlsX w' (fun _ => False) Al args))
        have HEC := Lib.hid ((evcall_any lib A c name args Al cl F w4 (HO.out.L.mono HB4.out) HO.out.F HO.out.P HO.out.N (HVS.out w4 HB4.out) (fun v hv => by have := HVL.out v hv; omega) (by omega) (by omega)).mono fun _ _ => ret_out)
        have HPO := Lib.hid (fun (h : (outV (startR lib name args F)).1 ≠ 18) => agrees_pos hv name args F h)
        have HNE := Lib.hid (fun (h0 : F < 0) (h : (outV (startR lib name args F)).1 ≠ 18) => agrees_neg hv name args F h0 h)
        have HEA := Lib.hid (fun (w' : World) (hb' : Below w4.heap.size w4 w') (F' : Int) (hF' : ∀ g, findA (normL lib) name = some g → args.length = g.params.length → tyA args g.params = true → longA args = false → F' ≤ 1000000) => aEval_any (lib := normL lib) c4 (hA4.below hb') (fun g hg => (HFT.out g hg).1) (fun g hg => (HFT.out g hg).2) (by rw [HLN.out]; omega) (ar_valid fun g hg => (HFT.out g hg).1) name Al args cl (HVS.out w' (below_step HB4.out HB4.out.size hb')) (fun v hv => by have := HVL.out v hv; omega) (by omega) F' hF')
        rw [HLN.out] at HEA
        clear hb4 hv hA4
        obtain ⟨r, hr⟩ : ∃ r, r = outV (startR lib name args F) := ⟨_, rfl⟩
        rw [← hr] at HEC HPO HNE
        clear hr
        go_wp2_with fail
        refine HEC.out.mono ?_
        clear HEC
        rintro e w5 ⟨hb5, hl5, A5, c5, rfl, hi5⟩
        have HB5 := Lib.hid (below_step HB4.out HB4.out.size hb5)
        have HBY := Lib.hid (below_box w5 (Obj.cells #[.bool r.2.list, .int .i64 r.2.n, .slice A5 r.2.l.length c5] 46))
        have HXY := Lib.hid (bx_new w5 #[.bool r.2.list, .int .i64 r.2.n, .slice A5 r.2.l.length c5] 46)
        have HB6 := Lib.hid (below_step HB5.out HB5.out.size HBY.out)
        have HB46 := Lib.hid (below_step hb5 hb5.size HBY.out)
        have HI6 := Lib.hid (hi5.mono HBY.out)
        clear hb5 hi5
        go_upto_region 9 with fail
        generalize w5.alloc _ = W6 at HBY HXY HB6 HB46 HI6 ⊢
        by_cases h18 : r.1 = 18
        · have h18' : (r.1 == 18) = true := by rw [h18]; rfl
          clear h18
          go_wp2_with fail
          go_ret
          exact ⟨rfl, HB6.out⟩
        have h18' : (r.1 == 18) = false := beq_eq_false_iff_ne.2 h18
        have HE2 := Lib.hid (show ∀ F' : Int, (F < 0 ∨ F' = 2 * F) → Calls Tryd.prog 19 #[.slice A4 lib.length c4, .string name, .slice Al args.length cl, .int .i64 F'] W6 (RetEv r W6) from fun F' hF' => by
          by_cases h0 : F < 0
          · obtain ⟨k1, k2⟩ := HNE.out h0 h18
            have h := HEA.out W6 HB46.out F' (fun g h1 h2 h3 h4 => by rw [k2 g h1 h2 h3] at h4; cases h4)
            rw [k1 F'] at h
            exact h
          · have e : F' = 2 * F := by rcases hF' with h | h; exact absurd h h0; exact h
            have h := HEA.out W6 HB46.out F' (fun _ _ _ _ _ => by omega)
            rw [e, HPO.out h18, ← e] at h
            exact h)
        clear HPO HNE HEA h18
        by_cases h0 : F < 0
        · have HE3 := Lib.hid (fun F' => HE2.out F' (.inl h0))
          clear HE2
          go_wp2_with fail
          refine (HE3.out _).mono ?_
          clear HE3
          rintro e w7 ⟨hb7, hl7, A7, c7, rfl, hi7⟩
          have HB7 := Lib.hid (below_step HB6.out HB6.out.size hb7)
          have HBZ := Lib.hid (below_box w7 (Obj.cells #[.bool r.2.list, .int .i64 r.2.n, .slice A7 r.2.l.length c7] 46))
          have HXZ := Lib.hid (bx_new w7 #[.bool r.2.list, .int .i64 r.2.n, .slice A7 r.2.l.length c7] 46)
          have HXY7 := Lib.hid ((HXY.out.below hb7).below HBZ.out)
          have HB8 := Lib.hid (below_step HB7.out HB7.out.size HBZ.out)
          have HSA := Lib.hid (same_any r.2 A5 A7 c5 c7 _ ((HI6.out.mono hb7).mono HBZ.out) (hi7.mono HBZ.out) hl5)
          clear hb7 hi7
          go_upto_region 12 with fail
          generalize w7.alloc _ = W8 at HBZ HXZ HXY7 HB8 HSA ⊢
          obtain ⟨x0, x1, x2, _⟩ := Bx.three HXY7.out
          obtain ⟨z0, z1, z2, _⟩ := Bx.three HXZ.out
          have hlx := HXY7.out.lt
          have hlz := HXZ.out.lt
          have hee : (r.1 == r.1) = true := by simp
          go_wp2_with fail
          refine HSA.out.mono ?_
          rintro e w9 ⟨rfl, hb9⟩
          have HB9 := Lib.hid (below_step HB8.out HB8.out.size hb9)
          clear x0 x1 x2 z0 z1 z2 hb9 HSA
          go_wp2_with fail
          go_ret
          exact ⟨rfl, HB9.out⟩
        · have HE3 := Lib.hid (HE2.out (2 * F) (.inr rfl))
          clear HE2
          go_wp2_with fail
          refine HE3.out.mono ?_
          clear HE3
          rintro e w7 ⟨hb7, hl7, A7, c7, rfl, hi7⟩
          have HB7 := Lib.hid (below_step HB6.out HB6.out.size hb7)
          have HBZ := Lib.hid (below_box w7 (Obj.cells #[.bool r.2.list, .int .i64 r.2.n, .slice A7 r.2.l.length c7] 46))
          have HXZ := Lib.hid (bx_new w7 #[.bool r.2.list, .int .i64 r.2.n, .slice A7 r.2.l.length c7] 46)
          have HXY7 := Lib.hid ((HXY.out.below hb7).below HBZ.out)
          have HB8 := Lib.hid (below_step HB7.out HB7.out.size HBZ.out)
          have HSA := Lib.hid (same_any r.2 A5 A7 c5 c7 _ ((HI6.out.mono hb7).mono HBZ.out) (hi7.mono HBZ.out) hl5)
          clear hb7 hi7
          go_upto_region 12 with fail
          generalize w7.alloc _ = W8 at HBZ HXZ HXY7 HB8 HSA ⊢
          obtain ⟨x0, x1, x2, _⟩ := Bx.three HXY7.out
          obtain ⟨z0, z1, z2, _⟩ := Bx.three HXZ.out
          have hlx := HXY7.out.lt
          have hlz := HXZ.out.lt
          have hee : (r.1 == r.1) = true := by simp
          go_wp2_with fail
          refine HSA.out.mono ?_
          rintro e w9 ⟨rfl, hb9⟩
          have HB9 := Lib.hid (below_step HB8.out HB8.out.size hb9)
          clear x0 x1 x2 z0 z1 z2 hb9 HSA
          go_wp2_with fail
          go_ret
          exact ⟨rfl, HB9.out⟩

end Go.Proofs.YtcoeakdpcigogaaDoor

namespace Go.Proofs.YtcoeakdpcigogaaDoor
open Go.ChangeShapes Go.WideShapes Go.ChangeAt Go.RowKit
open Go.ChangeMaps (open_string)

set_option maxRecDepth 100000 in
theorem contract_anfAgrees (H : Type) (enc : TypeId × Value → H) (W : World) (base : Nat) (args : Array Value) (ds gs : List (DataW H)) (before : List MemPlace)
    (hval : ∀ (j : Nat) t v, Tryd.f8.params[j]? = some t → args[j]? = some v → Value.okWide Tryd.prog W .any base t v)
    (hW : DataW.Whole enc Tryd.prog Tryd.f8.params.toList Rows.anfAgreesSpec.vars false W args.toList ds gs before) (hcond : Rows.uptoSmall H (ds ++ gs) = true) (hL : laidMetH Tryd.prog Rows.anfAgreesUptoRow.laid W) :
    Calls Tryd.prog 8 args W fun e W' => ∃ v, e = .returned v ∧ Rows.anfAgreesSpec.post enc Tryd.prog Tryd.f8 false true false false W args v W' := by
  have hW' := hW
  obtain ⟨p, q, hA0, hV, rfl, hfz, hnd⟩ := hW
  have hA : DataW.TrodAll enc Tryd.prog W 0 (fun _ => true) true Tryd.f8.params.toList args.toList ds p := hA0
  rw [Tryd.params8] at hA hval
  obtain ⟨v0, vs0, d0, ds0, p0, q0, hargs0, rfl, rfl, h0, r0⟩ := trodAll_cons hA
  obtain ⟨v1, vs1, d1, ds1, p1, q1, rfl, rfl, rfl, h1, r1⟩ := trodAll_cons r0
  obtain ⟨v2, vs2, d2, ds2, p2, q2, rfl, rfl, rfl, h2, r2⟩ := trodAll_cons r1
  obtain ⟨v3, vs3, d3, ds3, p3, q3, rfl, rfl, rfl, h3, r3⟩ := trodAll_cons r2
  obtain ⟨rfl, rfl, rfl⟩ := trodAll_nil r3
  obtain rfl : args = #[v0, v1, v2, v3] := by cases args; simp_all
  obtain ⟨A0, lib0, c0, rfl, hL0, hF0, hX0⟩ := open_libM (hval 0 _ v0 rfl rfl) h0
  have hbk : Rows.uptoBulk d0 ≤ 1048576 := by
    simp only [Rows.uptoSmall, List.cons_append, Rows.uptoBulkAll, decide_eq_true_eq] at hcond
    omega
  obtain ⟨s1, rfl, -, -, w1⟩ := open_string Tryd.underlying9 (hval 1 _ v1 rfl rfl) h1
  obtain ⟨A2, l2, c2, rfl, i2, j2, k2⟩ := open_vals (hval 2 _ v2 rfl rfl) h2
  obtain ⟨n3, rfl, -, -, w3⟩ := open_int Tryd.underlying3 (hval 3 _ v3 rfl rfl) h3
  exact law_post (tb := 4) laidOut (by kernel_rfl) (by kernel_rfl) Tryd.underlying4 rfl hW' ⟨rfl, rfl, rfl⟩
    (law_agrees lib0 A0 c0 ⟨wld_of_laid hL, hL0, hF0, fun k f hk => by have := (hX0 k f hk).1; omega, fun k f hk => by have := (hX0 k f hk).2; omega⟩ s1 l2 A2 c2 i2 k2 j2 n3 (wf_i64 w3).1)

theorem laid_met_anfAgrees (os : Os) : laidMet Tryd.prog Rows.anfAgreesUptoRow.laid ((World.laidAll Tryd.prog os Rows.anfAgreesUptoRow.laid).forCall (fun _ _ => 0) ⟨#[], #[.slice none 0 0, .string ⟨#[]⟩, .slice none 0 0, .int .i64 0], []⟩).memory :=
  laidMet_laidAll _ (by kernel_rfl) (by kernel_rfl)
theorem reads_anfAgrees (os : Os) {H : Type} (enc : TypeId × Value → H) : ∃ places, DataW.whole enc Tryd.prog ((World.laidAll Tryd.prog os Rows.anfAgreesUptoRow.laid).forCall (fun _ _ => 0) ⟨#[], #[.slice none 0 0, .string ⟨#[]⟩, .slice none 0 0, .int .i64 0], []⟩).memory Tryd.f8.params.toList Rows.anfAgreesSpec.vars false (#[.slice none 0 0, .string ⟨#[]⟩, .slice none 0 0, .int .i64 0] : Array Value).toList 8 = some ([.nil, .lit (.string []), .nil, .lit (.int .i64 0)], [], places) :=
  ⟨[], by kernel_rfl⟩

set_option maxRecDepth 100000 in
theorem lifted_anfAgrees (os : Os) (started : os.Started) (H : Type) (enc : TypeId × Value → H) (F : Stop.Interp) :
    ReturnsInHanded {} Tryd.checked os 8 .any ((Rows.OpenSpec.upto Rows.anfAgreesSpec).preRow enc Tryd.prog Tryd.f8 Rows.anfAgreesUptoRow.domain false Rows.anfAgreesUptoRow.laid) (((Rows.OpenSpec.upto Rows.anfAgreesSpec).at F).post enc Tryd.prog Tryd.f8 false true false false) := by
  obtain ⟨places, hx⟩ := reads_anfAgrees os enc
  refine returnsInHanded_of_row (C := Tryd.checked) (s := Rows.OpenSpec.upto Rows.anfAgreesSpec) own started (by kernel_rfl) Tryd.func8
    (witness_row_atRef (enc := enc) (C := Tryd.checked) false (World.laidAll Tryd.prog os Rows.anfAgreesUptoRow.laid) #[.slice none 0 0, .string ⟨#[]⟩, .slice none 0 0, .int .i64 0] (World.laidAll_os _ _ _) (by kernel_rfl) (by kernel_rfl) (by kernel_rfl)
      (OpenSpec.preRow_of_cond 8 hx (by kernel_rfl) (fun k hk => by cases hk; kernel_rfl) (by kernel_rfl) (by rw [MakeChecks.laidMetH_plain _ _ _ (by kernel_rfl)]; exact laid_met_anfAgrees os))) ?_
  intro W base args ds gs before hval hW _ hcond _ hL _ _
  exact contract_anfAgrees H enc W base args ds gs before hval hW (hcond _ rfl) hL

theorem said_anfAgrees : Rows.AnfAgreesUptoSaid :=
  OpenClaim.holds_of_cond 8 Tryd.f8 rfl rfl rfl rfl rfl rfl rfl ⟨rfl, rfl, rfl, rfl, rfl⟩ rfl rfl rfl rfl rfl (by kernel_rfl) Tryd.func8 (by kernel_rfl)
    (of_decide_eq_true (by kernel_rfl)) (by unfold Func.isWrapper; first | (rw [if_pos (by decide +kernel)]; kernel_rfl) | (rw [if_neg (by decide +kernel)]; exact ⟨rfl, rfl⟩))
    (fun os started H enc _ F => by rw [OpenClaim.pre_eq_preRow]; exact lifted_anfAgrees os started H enc F)

theorem plain_anfAgrees (f : FuncId) (fn : Func) (hf : Tryd.pinned.checked.prog.funcNamed "backstep/backsteplaw38.AnfAgrees" = some f) (hfn : Tryd.pinned.checked.prog.funcs[f]? = some fn) :
    true = Tryd.pinned.checked.prog.looks [] ∧ ∀ (j : Nat) t, fn.params[j]? = some t → Tryd.pinned.checked.prog.wantsStandIn t = false := by
  obtain rfl : f = 8 := Option.some.inj ((show Tryd.prog.funcNamed "backstep/backsteplaw38.AnfAgrees" = some 8 by kernel_rfl).symm.trans hf) |>.symm
  obtain rfl : fn = Tryd.f8 := (Option.some.inj (Tryd.func8.symm.trans hfn)).symm
  refine ⟨by kernel_rfl, fun j t ht => ?_⟩
  have hall : Tryd.f8.params.all (fun t => !Tryd.prog.wantsStandIn t) = true := by kernel_rfl
  have := Array.all_eq_true'.1 hall t (Array.mem_of_getElem? ht)
  exact (show Tryd.prog.wantsStandIn t = false by simpa using this)

/-- The card: the law's statement. -/
theorem card_anfAgrees : Rows.AnfAgreesUptoCardSaid :=
  Claim7.holds_tied_plain_at .later [] _ _ _ _ said_anfAgrees (fun _ h => by cases h) (by kernel_rfl) (fun _ h => by cases h) anfAgreesUpto_row_tie rfl ⟨rfl, rfl⟩ (by kernel_rfl) rfl plain_anfAgrees (by kernel_rfl)

end Go.Proofs.YtcoeakdpcigogaaDoor

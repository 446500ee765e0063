/-
  A wrapper function, plainly.
-/
import Derived.Test.YtgokgcnalgpiiaaFevL0
import Derived.Test.YtgokgcnalgpiiaaFevFuel
import Derived.Test.YtgokgcnalgpiiaaFunCongr
import Derived.Test.YtgokgcnalgpiiaaFunRot
namespace Go.Proofs.Ytgokgcnalgpiiaa

def wrapS : ByteArray := ⟨#[119, 114, 97, 112, 112, 101, 114]⟩
def varN (p : Pm) : Nd := .mk 81 0 p.name []
def wrapF (f : Fn1) (name : ByteArray) : Fn1 := ⟨wrapS, f.params, f.list, .mk 85 0 name (f.params.map varN)⟩

/-! ### Parameters -/
theorem paramE_nodup {l : List Pm} (h : paramE l = 0) : (l.map Pm.name).Nodup := by
  unfold paramE at h
  split at h
  · simp at h
  split at h
  · simp at h
  split at h
  · assumption
  · simp at h
theorem foldE_miss (s : ByteArray) : ∀ (l : List Pm) (e : ByteArray → Option Bool), s ∉ l.map Pm.name → (l.foldl (fun env p => setE env p.name (some p.list)) e) s = e s
  | [], _, _ => rfl
  | q :: r, e, h => by
    rw [List.foldl_cons, foldE_miss s r _ (fun hm => h (by simp at hm ⊢; exact .inr hm))]
    unfold setE
    rw [if_neg (fun e => h (by simp [e]))]
theorem foldE_get : ∀ (l : List Pm) (e : ByteArray → Option Bool), (l.map Pm.name).Nodup → ∀ p ∈ l, (l.foldl (fun env p => setE env p.name (some p.list)) e) p.name = some p.list
  | [], _, _, p, h => by simp at h
  | q :: r, e, hn, p, h => by
    rw [List.map_cons, List.nodup_cons] at hn
    rw [List.foldl_cons]
    rcases List.mem_cons.1 h with rfl | h
    · rw [foldE_miss _ r _ hn.1]; unfold setE; rw [if_pos rfl]
    · exact foldE_get r _ hn.2 p h
theorem envV_miss (s : ByteArray) : ∀ (ps : List Pm) (vs : List Vl) (e : ByteArray → Option Vl), s ∉ ps.map Pm.name → envV ps vs e s = e s
  | [], _, _, _ => by unfold envV; rfl
  | q :: r, [], e, _ => by unfold envV; rfl
  | q :: r, v :: vs, e, h => by
    rw [envV, envV_miss s r vs _ (fun hm => h (by simp at hm ⊢; exact .inr hm))]
    unfold setV
    rw [if_neg (fun e => h (by simp [e]))]
theorem envV_get : ∀ (ps : List Pm) (vs : List Vl) (e : ByteArray → Option Vl), (ps.map Pm.name).Nodup → vs.length = ps.length → ps.map (fun p => (envV ps vs e p.name).getD zeroV) = vs
  | [], vs, _, _, h => by
    have : vs = [] := List.eq_nil_of_length_eq_zero (by simpa using h)
    subst this; rfl
  | q :: r, [], _, _, h => by simp at h
  | q :: r, v :: vs, e, hn, h => by
    rw [List.map_cons, List.nodup_cons] at hn
    rw [List.map_cons, envV, envV_miss _ r vs _ hn.1]
    unfold setV
    rw [if_pos rfl]
    have := envV_get r vs (fun t => if t = q.name then some v else e t) hn.2 (by simpa using h)
    rw [this]; rfl

/-! ### The wrapper is valid -/
mutual
theorem names_ar {lib : List Fn1} : ∀ (x : Nd), arT lib x = true → ∀ s ∈ namesT x, 0 ≤ findF lib s 0
  | .mk kind _ name kids, h, s, hs => by
    rw [arT_eq] at h
    simp only [Bool.and_eq_true] at h
    rw [namesT] at hs
    rcases List.mem_append.1 hs with hs | hs
    · by_cases e : kind = 85
      · rw [if_pos e] at hs
        simp at hs; subst hs
        have h1 := h.1
        rw [if_pos (show (Nd.mk kind _ s kids).kind = 85 from e)] at h1
        simp only [Bool.and_eq_true, decide_eq_true_eq] at h1
        exact h1.1
      · rw [if_neg e] at hs; simp at hs
    · exact names_arL kids h.2 s hs
theorem names_arL {lib : List Fn1} : ∀ (l : List Nd), arTL lib l = true → ∀ s ∈ namesTL l, 0 ≤ findF lib s 0
  | [], _, s, hs => by simp [namesTL] at hs
  | y :: r, h, s, hs => by
    rw [arTL, Bool.and_eq_true] at h
    rw [namesTL] at hs
    rcases List.mem_append.1 hs with hs | hs
    · exact names_ar y h.1 s hs
    · exact names_arL r h.2 s hs
end
theorem var_form : ∀ l : List Pm, formTL (l.map varN) = true
  | [] => rfl
  | p :: r => by
    rw [List.map_cons, formTL, var_form r, formT_eq]
    rfl
theorem var_size : ∀ l : List Pm, sizeTL (l.map varN) = l.length
  | [] => rfl
  | p :: r => by
    rw [List.map_cons, sizeTL, var_size r, sizeT_eq]
    show 1 + sizeTL [] + r.length = _
    simp [sizeTL]; omega
theorem var_dep : ∀ l : List Pm, depTL (l.map varN) ≤ 1
  | [] => by simp [depTL]
  | p :: r => by
    have h := var_dep r
    rw [List.map_cons, depTL, depT_eq]
    show max (1 + depTL []) _ ≤ 1
    simp [depTL]; omega
theorem chk_var {lib : List Fn1} {env : ByteArray → Option Bool} {p : Pm} (h : env p.name = some p.list) : chkT lib (varN p) env = (p.list, 0) := by
  rw [chkT_eq]
  have h1 : reachE lib env (varN p) = 0 := by unfold reachE; rw [if_pos (show (varN p).kind = 81 from rfl)]; show (if (env p.name).isSome = true then (0 : Int) else 6) = 0; rw [h]; rfl
  rw [h1, if_neg (by simp)]
  show (if (chkTL lib [] env 81 p.name 0 []).2 ≠ 0 then _ else if 81 = 81 then ((env p.name).getD false, (0 : Int)) else _) = _
  rw [h]; rfl
theorem chk_vars {lib : List Fn1} {env : ByteArray → Option Bool} {name : ByteArray} : ∀ (l : List Pm) (i : Nat) (ts : List Bool), (∀ p ∈ l, env p.name = some p.list) → chkTL lib (l.map varN) env 85 name i ts = (ts ++ l.map Pm.list, 0)
  | [], i, ts, _ => by rw [List.map_nil, chkTL]; simp
  | p :: r, i, ts, h => by
    rw [List.map_cons, chkTL]
    have he : envAt 85 name env i ts = env := by unfold envAt; simp
    rw [he, chk_var (h p (by simp)), chk_vars r _ _ (fun q hq => h q (by simp [hq]))]
    simp
theorem wrap_name : nameB wrapS = true := by decide +kernel
theorem wrap_find {lib : List Fn1} {f : Fn1} {name : ByteArray} (hn : findF lib wrapS 0 < 0) : findF (lib ++ [wrapF f name]) wrapS 0 = lib.length := by
  rw [findF_snoc, if_neg (by omega), if_pos (show (wrapF f name).name = wrapS from rfl)]; simp
theorem wrap_valid {lib : List Fn1} (h : (validR lib).2 = 0) (hl : lib.length ≤ 6) {name : ByteArray} {j : Nat} {f : Fn1} (hj : findF lib name 0 = j) (hf : lib[j]? = some f) (hn : findF lib wrapS 0 < 0) : validR (lib ++ [wrapF f name]) = (-1, 0) := by
  have hne : wrapS ≠ name := fun e => by rw [e] at hn; omega
  refine valid_of (fun i g hi => ?_)
  by_cases hlt : i < lib.length
  · rw [List.getElem?_append_left hlt] at hi
    rw [one_snoc hi (fun s hs e => ?_) hn]
    · exact valid_facts h hi
    · have hc := (one_facts (valid_facts h hi)).2.2.2.2.2.2.2
      have := names_ar g.body (chk_ar lib g.body (envF g.params) (by rw [hc])) s hs
      rw [← e] at this
      have h2 : findF lib wrapS 0 < 0 := hn
      exact absurd this (by show ¬ 0 ≤ findF lib wrapS 0; omega)
  · have hil : i = lib.length := by
      have := (List.getElem?_eq_some_iff.1 hi).1; simp at this; omega
    subst hil
    rw [List.getElem?_append_right (Nat.le_refl _), Nat.sub_self] at hi
    simp at hi
    subst hi
    obtain ⟨_, _, _, h4, _⟩ := one_facts (valid_facts h hf)
    have h8 := paramE_zero h4
    refine one_of (by omega) wrap_name (by rw [show (wrapF f name).name = wrapS from rfl, wrap_find hn]; omega) h4 ?_ ?_ ?_ ?_
    · rw [formT_eq]
      show (formB 85 0 name _ && formTL (f.params.map varN)) = true
      rw [var_form]; rfl
    · rw [depT_eq]
      have := var_dep f.params
      show 1 + depTL (f.params.map varN) ≤ 80
      omega
    · rw [sizeT_eq]
      show 1 + sizeTL (f.params.map varN) ≤ 2000
      rw [var_size]; omega
    · have hfi : findF (lib ++ [wrapF f name]) name 0 = j := by rw [find_snoc_ne hne, hj]
      have hget : (lib ++ [wrapF f name])[(findF (lib ++ [wrapF f name]) name 0).toNat]? = some f := by
        rw [hfi, Int.toNat_natCast, List.getElem?_append_left (List.getElem?_eq_some_iff.1 hf).1, hf]
      have hr : reachE (lib ++ [wrapF f name]) (envF f.params) (wrapF f name).body = 0 := by
        unfold reachE
        show (if 85 = 81 then _ else if 85 = 84 then _ else if 85 = 85 then (if findF (lib ++ [wrapF f name]) name 0 < 0 then (6 : Int) else if (f.params.map varN).length ≠ (((lib ++ [wrapF f name])[(findF (lib ++ [wrapF f name]) name 0).toNat]?).map fun f => f.params.length).getD 0 then 7 else 0) else 0) = 0
        rw [hget, hfi]
        simp
      rw [chkT_eq, show reachE (lib ++ [wrapF f name]) (envF (wrapF f name).params) (wrapF f name).body = 0 from hr, if_neg (by simp)]
      have hcl : chkTL (lib ++ [wrapF f name]) (wrapF f name).body.kids (envF (wrapF f name).params) (wrapF f name).body.kind (wrapF f name).body.name 0 [] = ([] ++ f.params.map Pm.list, 0) := chk_vars f.params 0 [] (fun p hp => foldE_get f.params _ (paramE_nodup h4) p hp)
      rw [hcl, if_neg (by simp), if_neg (show ¬ (wrapF f name).body.kind = 81 by show ¬ 85 = 81; omega)]
      have hw : wantR (lib ++ [wrapF f name]) (wrapF f name).body ([] ++ f.params.map Pm.list) = (f.params.map Pm.list, f.list) := by
        unfold wantR
        rw [if_neg (show ¬ (wrapF f name).body.kind = 82 by show ¬ 85 = 82; omega), if_neg (show ¬ (wrapF f name).body.kind = 83 by show ¬ 85 = 83; omega), if_neg (show ¬ (wrapF f name).body.kind = 84 by show ¬ 85 = 84; omega), if_pos (show (wrapF f name).body.kind = 85 from rfl)]
        rw [show (wrapF f name).body.name = name from rfl, hget]
      unfold resR resQ
      rw [hw, List.nil_append, if_pos rfl]
      rfl

/-! ### What it computes -/
theorem evL_vars {lib : List Fn1} {d a : Nat} {env : ByteArray → Option Vl} : ∀ (l : List Pm) (m : Nat), evL (ev apR lib (d + 1) a env) (l.map varN) (l.length + m) = .ok (l.map fun p => (env p.name).getD zeroV) m []
  | [], m => by rw [List.map_nil, evL]; simp
  | p :: r, m => by
    have h1 : ev apR lib (d + 1) a env (varN p) ((p :: r).length + m) = .ok ((env p.name).getD zeroV) (r.length + m) [] := by
      rw [ev, if_neg (by simp), if_neg (by show ¬ 81 = 80; omega), if_pos (show (varN p).kind = 81 from rfl)]
      show Out.ok ((env p.name).getD zeroV) _ [] = _
      congr 1
      simp
    rw [List.map_cons, evL, h1]
    dsimp only
    rw [evL_vars r m]
    rfl
theorem enter_bound {lib : List Fn1} {d d' a : Nat} {i : Int} {args : List Vl} {f : Nat} (h : f ≤ d) (h' : f ≤ d') : enter lib (ev apR lib d) a i args f = enter lib (ev apR lib d') a i args f := by
  unfold enter
  split
  · rfl
  split
  · rfl
  rw [ev_bound apR lib d d' _ _ _ f h h']
theorem ren_snoc {lib : List Fn1} {z : Fn1} (h : (validR lib).2 = 0) : Ren (fun i => i) lib (lib ++ [z]) := by
  refine ⟨fun s hs => ?_, fun i f hi => ?_⟩
  · have e : findF (lib ++ [z]) s 0 = findF lib s 0 := by rw [findF_snoc, if_pos hs]
    refine ⟨e, ?_⟩
    rw [e]
    rcases findF_range s lib 0 with e2 | ⟨i, h1, h2, _⟩
    · omega
    · rw [List.getElem?_append_left (by rw [h2]; omega)]
  · exact chk_ar lib f.body (envF f.params) (by rw [(one_facts (valid_facts h hi)).2.2.2.2.2.2.2])
theorem Out.ren_id (o : Out) : o.ren (fun i => i) = o := by
  cases o with
  | err e => rfl
  | ok v f c => show Out.ok v f (renL _ c) = _; rw [renL_id]
/-- A call and its wrapper. -/
def UnfR (O P : OutT) : Prop := (∃ e, O = .err e ∧ P = .err e) ∨ (P = .err 19 ∧ ∀ t f, O = .ok t f → highT t = 30) ∨ ∃ t f t2 f2, O = .ok t f ∧ P = .ok t2 f2 ∧ t2.res = t.res ∧ t2.calls.length = 1 ∧ highT t2 ≤ 30
theorem cln_twice (x : Vl) : cln (cln x) = cln x := by
  unfold cln
  by_cases h : x.list = true
  · simp [h]
  · simp [h]
theorem enter_cln {lib : List Fn1} {E : Nat → (ByteArray → Option Vl) → Nd → Nat → Out} {a : Nat} {i : Int} {args : List Vl} {f : Nat} {t : Tr} {g : Nat} (h : enter lib E a i args f = .ok t g) : cln t.res = t.res := by
  unfold enter at h
  split at h
  · cases h
  split at h
  · cases h
  split at h
  · cases h
  · cases h; exact cln_twice _
theorem unf_plain {lib : List Fn1} (h : (validR lib).2 = 0) (hl : lib.length ≤ 6) {name : ByteArray} {j : Nat} {f : Fn1} (hj : findF lib name 0 = j) (hf : lib[j]? = some f) (hn : findF lib wrapS 0 < 0) (args : List Vl) (F : Int) (hF : F = 1000 + 1 + (f.params.length : Int)) : UnfR (startR lib name args 1000) (startR (lib ++ [wrapF f name]) wrapS args F) := by
  have hne : wrapS ≠ name := fun e => by rw [e] at hn; omega
  have h4 := (one_facts (valid_facts h hf)).2.2.2.1
  have n1 : ¬ ((-1 : Int), (0 : Int)).2 ≠ 0 := by simp
  have n3 : ¬ ((j : Nat) : Int) < 0 := by omega
  have n4 : ¬ ((lib.length : Nat) : Int) < 0 := by omega
  have hget : (lib ++ [wrapF f name])[lib.length]? = some (wrapF f name) := by simp
  unfold startR
  rw [wrap_valid h hl hj hf hn, wrap_find hn, hj, if_neg n1, if_neg (fun e => e h), if_neg n3, if_neg n4, Int.toNat_natCast, Int.toNat_natCast, hf, hget]
  dsimp only
  show UnfR _ (if args.length ≠ f.params.length then OutT.err 7 else if tyB args f.params = false then .err 7 else if longB args = true then .err 5 else enter (lib ++ [wrapF f name]) (ev apR (lib ++ [wrapF f name]) F.toNat) 0 (lib.length : Int) args F.toNat)
  by_cases g1 : args.length ≠ f.params.length
  · rw [if_pos g1, if_pos g1]; exact .inl ⟨_, rfl, rfl⟩
  rw [if_neg g1, if_neg g1]
  by_cases g2 : tyB args f.params = false
  · rw [if_pos g2, if_pos g2]; exact .inl ⟨_, rfl, rfl⟩
  rw [if_neg g2, if_neg g2]
  by_cases g3 : longB args = true
  · rw [if_pos g3, if_pos g3]; exact .inl ⟨_, rfl, rfl⟩
  rw [if_neg g3, if_neg g3]
  have gl : args.length = f.params.length := by omega
  have hFn : F.toNat = (1000 + f.params.length) + 1 := by omega
  have hfi : findF (lib ++ [wrapF f name]) name 0 = j := by rw [find_snoc_ne hne, hj]
  -- the body of the wrapper
  have hbody : ev apR (lib ++ [wrapF f name]) F.toNat 1 (envV f.params args fun _ => none) (wrapF f name).body F.toNat = (enter (lib ++ [wrapF f name]) (ev apR (lib ++ [wrapF f name]) (1000 + f.params.length)) 1 (j : Int) args 1000).out := by
    rw [hFn, ev, if_neg (by omega), if_neg (by show ¬ 85 = 80; omega), if_neg (by show ¬ 85 = 81; omega), if_neg (by show ¬ 85 = 83; omega), if_neg (by show ¬ 85 = 84; omega)]
    show (evL (ev apR (lib ++ [wrapF f name]) (1000 + f.params.length) 1 (envV f.params args fun _ => none)) (f.params.map varN) (1000 + f.params.length + 1 - 1)).bind _ = _
    rw [show 1000 + f.params.length + 1 - 1 = f.params.length + 1000 by omega, show 1000 + f.params.length = (999 + f.params.length) + 1 by omega, evL_vars f.params 1000]
    rw [envV_get f.params args _ (paramE_nodup h4) gl]
    show (if (wrapF f name).body.kind = 85 then (enter (lib ++ [wrapF f name]) _ 1 (findF (lib ++ [wrapF f name]) (wrapF f name).body.name 0) args 1000).out else _).pre [] = _
    rw [if_pos (show (wrapF f name).body.kind = 85 from rfl), show (wrapF f name).body.name = name from rfl, hfi]
    generalize enter _ _ _ _ _ _ = o
    cases o <;> rfl
  have hren := enter_ren (ren_snoc (z := wrapF f name) h) (E := ev apR lib (1000 + f.params.length)) (E' := ev apR (lib ++ [wrapF f name]) (1000 + f.params.length)) (fun a env x g hx => ev_ren apR (ren_snoc h) _ a env x g hx) 1 (j : Int) (j : Int) ⟨rfl, by rw [Int.toNat_natCast, List.getElem?_append_left (List.getElem?_eq_some_iff.1 hf).1]⟩ args 1000
  rw [Out.ren_id] at hren
  rw [hren, enter_bound (d' := 1000) (by omega) (Nat.le_refl _)] at hbody
  have hdp := enter_dp (lib := lib) (E := ev apR lib 1000) (fun a env x g => ev_dp apR lib 1000 a env x g) 0 (j : Int) args 1000
  have hcl := fun t g => enter_cln (lib := lib) (E := ev apR lib 1000) (a := 0) (i := (j : Int)) (args := args) (f := 1000) (t := t) (g := g)
  rw [show (1000 : Int).toNat = 1000 from rfl]
  generalize enter lib (ev apR lib 1000) 0 (j : Int) args 1000 = O at *
  generalize enter lib (ev apR lib 1000) 1 (j : Int) args 1000 = O1 at *
  have hout : enter (lib ++ [wrapF f name]) (ev apR (lib ++ [wrapF f name]) F.toNat) 0 (lib.length : Int) args F.toNat = match O1.out with
      | .err e => .err e
      | .ok y f1 c => .ok (.mk (lib.length : Int) (args.map cln) (cln y) c) f1 := by
    unfold enter
    rw [if_neg (by omega), Int.toNat_natCast, hget]
    show (match ev apR (lib ++ [wrapF f name]) F.toNat 1 (envV f.params args fun _ => none) (wrapF f name).body F.toNat with | .err e => OutT.err e | .ok y f1 c => .ok (.mk (lib.length : Int) (args.map cln) (cln y) c) f1) = _
    rw [hbody]
  rw [hout]
  obtain ⟨hhi, hd | hd⟩ := hdp
  · obtain ⟨hd, hh⟩ := hd
    rw [hd]
    cases O with
    | err e => exact .inl ⟨e, rfl, rfl⟩
    | ok t g =>
      refine .inr (.inr ⟨t, g, _, _, rfl, rfl, hcl t g rfl, rfl, ?_⟩)
      have := hh t.res g [t] rfl
      show highT (.mk _ _ _ [t]) ≤ 30
      rw [highT]
      omega
  · obtain ⟨hd, hh⟩ := hd
    rw [hd]
    refine .inr (.inl ⟨rfl, fun t g e => ?_⟩)
    subst e
    have := hh t.res g [t] rfl
    simp [highL] at this
    omega

end Go.Proofs.Ytgokgcnalgpiiaa

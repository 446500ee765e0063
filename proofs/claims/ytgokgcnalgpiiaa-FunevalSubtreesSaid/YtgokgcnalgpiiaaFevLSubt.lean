/-
  The walk of the law FunevalSubtrees.
-/
import Derived.Test.YtgokgcnalgpiiaaFevL0
import Derived.Test.YtgokgcnalgpiiaaFevSub2
import Derived.Test.YtgokgcnalgpiiaaFevSteps
import Derived.Lib.QuietBelow
import Derived.Deep.RegionHeld3
import Derived.Deep.DeepCutAuto
namespace Go.Proofs.Ytgokgcnalgpiiaa
open Go.ChangeShapes Go.WideShapes Go.ChangeAt Go.RowKit Go.Sort Go.Maps

/-! ### Plain -/
theorem goodL_get {ap : Int → Int → Int → Int × Int} {lib : List Fn1} : ∀ {l : List Tr} {k : Nat} {y : Tr}, goodL ap lib l → l[k]? = some y → goodT ap lib y
  | [], _, _, _, h => by simp at h
  | t :: r, 0, y, h, e => by
    rw [goodL] at h
    simp at e
    rw [← e]; exact h.1
  | t :: r, k + 1, y, h, e => by
    rw [goodL] at h
    exact goodL_get h.2 (by simpa using e)
theorem VRs.len {ts : List Bool} {us vs : List Vl} (h : VRs ts us vs) : us.length = ts.length := by
  induction h with
  | nil => rfl
  | cons _ _ ih => simp [ih]
theorem VRs.ty {ts : List Bool} {us vs : List Vl} (h : VRs ts us vs) : us.map Vl.list = ts := by
  induction h with
  | nil => rfl
  | cons h _ ih => rw [List.map_cons, h.a1, ih]
theorem VRs.short {ts : List Bool} {us vs : List Vl} (h : VRs ts us vs) : ∀ v ∈ us, v.list = true → v.l.length ≤ 1000 := by
  induction h with
  | nil => intro v hv; simp at hv
  | cons h _ ih =>
    intro v hv e
    rcases List.mem_cons.1 hv with rfl | hv
    · exact (h.l (h.a1.symm.trans e)).2
    · exact ih v hv e
theorem cln_short (x : Vl) (h : x.list = true → x.l.length ≤ 1000) : (cln x).l.length ≤ 1000 := by
  unfold cln
  split
  · rename_i e; exact h e
  · simp
structure GS (lib : List Fn1) (t : Tr) : Prop where
  ex : ∃ (i : Nat) (fn : Fn1) (left : Nat), t.func = i ∧ lib[i]? = some fn ∧ startR lib fn.name t.args 2000 = .ok t left ∧ t.args.length = fn.params.length
  av : ∀ v ∈ t.args, v.l.length ≤ 1000
  rv : t.res.l.length ≤ 1000
  st : stepsT t ≤ 2000
theorem good_calls {lib : List Fn1} {t : Tr} (h : goodT apR lib t) : goodL apR lib t.calls := by
  obtain ⟨f, a, r, c⟩ := t
  rw [goodT] at h
  exact h.2.2
theorem good_start {lib : List Fn1} (hv : (validR lib).2 = 0) {t : Tr} (h : goodT apR lib t) : GS lib t := by
  obtain ⟨f, a, r, c⟩ := t
  rw [goodT] at h
  obtain ⟨⟨left, he⟩, ⟨hf0, fn, hfn, hvr⟩, hc⟩ := h
  have L := LibOk.of hv
  have hcost := enter_cost (lib := lib) (fun a env x f => ev_cost apR lib 2000 a env x f) 0 f a 2000
  rw [he] at hcost
  have hst : left + stepsL [Tr.mk f a r c] ≤ 2000 := hcost
  have hst2 : stepsT (Tr.mk f a r c) ≤ 2000 := by rw [stepsL, stepsL] at hst; omega
  have he0 := he
  unfold enter at he
  rw [if_neg (by omega), hfn] at he
  dsimp only at he
  have hev := ev_vr apR L 2000 1 (envF fn.params) _ _ fn.body 2000 fn.list (L.form _ _ hfn) (L.chk _ _ hfn) (envF_er hvr)
  cases h1 : ev apR lib 2000 (0 + 1) (envV fn.params a fun _ => none) fn.body 2000 with
  | err e => rw [h1] at he; cases he
  | ok y f1 c1 =>
    rw [h1] at he
    injection he with e1 e2
    injection e1 with e3 e4 e5 e6
    have hy : y.list = true → y.l.length ≤ 1000 := fun e => by
      rcases hev with ⟨e', k1, _⟩ | ⟨p, q, f2, c2, k1, _, hpq⟩
      · rw [show (0 + 1 : Nat) = 1 from rfl] at h1; rw [h1] at k1; cases k1
      · rw [show (0 + 1 : Nat) = 1 from rfl] at h1; rw [h1] at k1
        injection k1 with k2 _ _
        subst k2
        exact (hpq.l (hpq.a1.symm.trans e)).2
    refine ⟨⟨f.toNat, fn, left, ?_, hfn, ?_, ?_⟩, fun v hvm => ?_, ?_, hst2⟩
    · show f = _; omega
    · have hfind : findF lib fn.name 0 = f := by rw [valid_find hv hfn]; omega
      have h1 : ¬ (validR lib).2 ≠ 0 := fun e => e hv
      have h2 : ¬ f < 0 := by omega
      have h3 : ¬ a.length ≠ fn.params.length := by rw [hvr.len]; simp
      have h4 : tyB a fn.params = true := by unfold tyB; simp [hvr.ty]
      have h5 : longB a = false := by
        unfold longB
        rw [List.any_eq_false]
        intro v hvm
        rw [Bool.and_eq_true]
        rintro ⟨k1, k2⟩
        have := hvr.short v hvm k1
        simp at k2
        omega
      show startR lib fn.name a 2000 = .ok (Tr.mk f a r c) left
      unfold startR
      rw [if_neg h1, hfind, if_neg h2, hfn]
      dsimp only
      rw [if_neg h3, h4, h5]
      simpa using he0
    · show a.length = _; rw [hvr.len]; simp
    · have hva : v ∈ a.map cln := by rw [e4]; exact hvm
      obtain ⟨u, hu, rfl⟩ := List.mem_map.1 hva
      exact cln_short u fun e => hvr.short u hu e
    · show r.l.length ≤ 1000
      rw [← e5]; exact cln_short y hy
/-- The tree that a call ends with is good. -/
theorem startR_good {lib : List Fn1} {name : ByteArray} {args : List Vl} {t : Tr} {f : Nat} (h : startR lib name args 2000 = .ok t f) : (validR lib).2 = 0 ∧ goodT apR lib t := by
  have h' := startR_ok h 2000
  rw [h] at h'
  unfold startR at h
  split at h
  · cases h
  rename_i h1
  split at h
  · cases h
  rename_i h2
  split at h
  · cases h
  rename_i fn hfn
  split at h
  · cases h
  rename_i h3
  split at h
  · cases h
  rename_i h4
  split at h
  · cases h
  rename_i h5
  have hv : (validR lib).2 = 0 := by simpa using h1
  have L := LibOk.of hv
  have hvr : VRs (fn.params.map Pm.list) args args := by
    have e1 : args.map Vl.list = fn.params.map Pm.list := by
      have : tyB args fn.params = true := by simpa using h4
      unfold tyB at this
      simpa using this
    have e2 : ∀ v ∈ args, v.list = true → v.l.length ≤ 1000 := fun v hvm e => by
      have : longB args = false := by simpa using h5
      unfold longB at this
      rw [List.any_eq_false] at this
      have := this v hvm
      rw [e] at this
      simp at this
      omega
    rw [← e1]
    clear e1 h h' h2 h3 h4 h5 hfn L
    induction args with
    | nil => exact .nil
    | cons v r ih => exact .cons ⟨rfl, rfl, fun e => ⟨rfl, e2 v (by simp) e⟩, fun _ => rfl⟩ (ih fun u hu => e2 u (by simp [hu]))
  refine ⟨hv, ?_⟩
  refine enter_good apR L hfn (by omega) hvr (Nat.le_refl 2000) (d := 2000) (act := 0) h'.symm (fun v g c hev => ?_)
  exact ev_good apR L 2000 1 (envF fn.params) _ fn.body 2000 fn.list (Nat.le_refl _) (L.form _ _ hfn) (L.chk _ _ hfn) (envF_er hvr) v g c hev

/-! ### Equal values, equal trees -/
set_option maxRecDepth 100000 in
set_option maxHeartbeats 1000000 in
theorem values_same (l : List Vl) (A A' : Option Addr) (c c' : Nat) (w : World) (h1 : VlsX w (fun _ => False) A l) (h2 : VlsX w (fun _ => False) A' l) (hl : l.length ≤ 1000000) (hv : ∀ v ∈ l, v.l.length ≤ 1000) :
    Calls Try.prog 35 #[.slice A l.length c, .slice A' l.length c'] w fun e w' => e = .returned (.bool true) ∧ Below w.heap.size w w' := by
  have H1 := Lib.hid h1
  have H2 := Lib.hid h2
  have HV := Lib.hid hv
  have hne : ((l.length : Int) != l.length) = false := by simp
  clear h1 h2 hv
  go_enter Try.func35, Try.ntmps35
  go_wp2_with fail
  clear hne
  go_loopw [13] (fun i wr => ∃ k : Nat, k ≤ l.length ∧ i = .int .i64 k ∧ Below w.heap.size w wr) (fun i _ => l.length - (intOf i).toNat)
  case atStart => exact ⟨0, by omega, rfl, Below.refl _ _⟩
  case round =>
    obtain ⟨k, hk, rfl, hb⟩ := hrel
    by_cases hin : k < l.length
    · have hg : l[k]? = some l[k] := List.getElem?_eq_getElem hin
      obtain ⟨b, o, Ai, ci, rfl, _, c0, c1, c2, hi⟩ := (H1.out.mono hb) k _ hg
      obtain ⟨b', o', Aj, cj, rfl, _, d0, d1, d2, hj⟩ := (H2.out.mono hb) k _ hg
      have hlen := HV.out _ (List.getElem_mem hin)
      generalize l[k] = v at *
      clear hg
      have c0' := cell_regrown c0
      have c1' := cell_regrown c1
      have c2' := cell_regrown c2
      have d0' := cell_regrown d0
      have d1' := cell_regrown d1
      have d2' := cell_regrown d2
      have HI := Lib.hid hi.at_
      have HJ := Lib.hid hj.at_
      have r1 : (0 : Int) ≤ k := by omega
      have r2 : (k : Int) < l.length := by omega
      have HEQ := Lib.hid (eqV_refl v)
      clear hi hj
      go_wp2_with fail
      refine wp_region_quiet_below (by kernel_rfl) (by kernel_rfl) ?_
      repeat (first | go_big_quiet_step ((go_at_call 16; exact Calls.regrown_of (equal_any v v Ai Aj ci cj _ (HI.out.mono (below_regrown _ _ _)) (HJ.out.mono (below_regrown _ _ _)) (by omega) (by omega)))) | quiet_step ((go_at_call 16; exact Calls.regrown_of (equal_any v v Ai Aj ci cj _ (HI.out.mono (below_regrown _ _ _)) (HJ.out.mono (below_regrown _ _ _)) (by omega) (by omega)))))
      refine wpQuiet_nil ?_
      intro w2 hw'
      obtain ⟨⟨dq, osq⟩, hw''⟩ := hw'
      have hb2 := below_regrown wr dq osq
      rw [← hw''] at hb2
      clear hw''
      rw [HEQ.out]
      clear c0 c1 c2 d0 d1 d2 c0' c1' c2' d0' d1' d2'
      have q := below_step hb hb.size hb2
      go_wp2_with fail
      exact ⟨⟨k + 1, by omega, by go_num, q⟩, by simp [intOf]; omega⟩
    · go_wp2_with fail
      go_ret
      exact ⟨rfl, hb⟩

theorem IntsC.below {w w' : World} {X : Nat → Prop} {A : Option Addr} {c : Nat} {l : List Int} (h : IntsC w X A c l) (hb : Below w.heap.size w w') : IntsC w' X A c l := h.le (Le.of_fr (Fr.of_below hb (fun _ => False)) (fun _ _ e => e.elim) fun _ _ e => e)

set_option maxRecDepth 100000 in
set_option maxHeartbeats 1000000 in
theorem equalT_same (lib : List Fn1) (hvl : (validR lib).2 = 0) (hfp : FewParams lib) (N : Nat) : ∀ (t : Tr), SizeOf.sizeOf t ≤ N → goodT apR lib t → ∀ (tf tf' : Int) (Aa Aa' : Option Addr) (ca ca' : Nat) (AL AL' : Option Addr) (cL cL' : Nat) (Ac Ac' : Option Addr) (cc cc' : Nat) (w : World), VlsX w (fun _ => False) Aa t.args → VlsX w (fun _ => False) Aa' t.args → IntsC w (fun _ => False) AL cL t.res.l → IntsC w (fun _ => False) AL' cL' t.res.l → TrsX w (fun _ => False) Ac t.calls → TrsX w (fun _ => False) Ac' t.calls →
    Calls Try.prog 29 #[.agg #[.int .i64 tf, .slice Aa t.args.length ca, .bool t.res.list, .int .i64 t.res.n, .slice AL t.res.l.length cL, .slice Ac t.calls.length cc], .agg #[.int .i64 tf', .slice Aa' t.args.length ca', .bool t.res.list, .int .i64 t.res.n, .slice AL' t.res.l.length cL', .slice Ac' t.calls.length cc']] w fun e w' => e = .returned (.bool true) ∧ Below w.heap.size w w' := by
  induction N with
  | zero => intro t ht; exfalso; cases t; simp at ht
  | succ N ih =>
    intro t ht hg tf tf' Aa Aa' ca ca' AL AL' cL cL' Ac Ac' cc cc' w hA hA' hR hR' hK hK'
    obtain ⟨⟨i, fn, left, _, hfn, _, hal⟩, hav, hrv, hst⟩ := good_start hvl hg
    have hpn : t.args.length ≤ 400000 := by have := hfp _ _ hfn; omega
    clear hal
    have HAV := Lib.hid hav
    have HGL := Lib.hid (good_calls hg)
    have hse := stepsT_eq t
    have hlen : t.calls.length ≤ stepsL t.calls := by
      generalize t.calls = c
      induction c with
      | nil => simp
      | cons x r ih => cases x; rw [stepsL, stepsT, List.length_cons]; omega
    have hcl : t.calls.length ≤ 2000 := by omega
    have hbW := two_box w (Obj.cells #[.int .i64 tf, .slice Aa t.args.length ca, .bool t.res.list, .int .i64 t.res.n, .slice AL t.res.l.length cL, .slice Ac t.calls.length cc] 32) (Obj.cells #[.int .i64 tf', .slice Aa' t.args.length ca', .bool t.res.list, .int .i64 t.res.n, .slice AL' t.res.l.length cL', .slice Ac' t.calls.length cc'] 32)
    have e1 := (bx_new w #[.int .i64 tf, .slice Aa t.args.length ca, .bool t.res.list, .int .i64 t.res.n, .slice AL t.res.l.length cL, .slice Ac t.calls.length cc] 32).below (below_box _ (Obj.cells #[.int .i64 tf', .slice Aa' t.args.length ca', .bool t.res.list, .int .i64 t.res.n, .slice AL' t.res.l.length cL', .slice Ac' t.calls.length cc'] 32))
    have e2 := bx_new (w.alloc (Obj.cells #[.int .i64 tf, .slice Aa t.args.length ca, .bool t.res.list, .int .i64 t.res.n, .slice AL t.res.l.length cL, .slice Ac t.calls.length cc] 32)) #[.int .i64 tf', .slice Aa' t.args.length ca', .bool t.res.list, .int .i64 t.res.n, .slice AL' t.res.l.length cL', .slice Ac' t.calls.length cc'] 32
    rw [show (w.alloc (Obj.cells #[.int .i64 tf, .slice Aa t.args.length ca, .bool t.res.list, .int .i64 t.res.n, .slice AL t.res.l.length cL, .slice Ac t.calls.length cc] 32)).heap.size = w.heap.size + 1 by simp] at e2
    have HA := Lib.hid (And.intro (hA.below hbW) (hA'.below hbW))
    have HR := Lib.hid (And.intro (hR.below hbW).at_ (hR'.below hbW).at_)
    have HK := Lib.hid (And.intro (hK.below hbW) (hK'.below hbW))
    have HQ := Lib.hid hbW
    have HEQ := Lib.hid (eqV_refl t.res)
    clear hA hA' hR hR' hK hK' hbW hav hse hlen hg
    go_enter Try.func29, Try.ntmps29
    go_wp2_with fail
    generalize World.alloc _ _ = W at *
    obtain ⟨⟨x0, x1, x2, x3, x4, x5⟩, _⟩ := e1.six
    obtain ⟨⟨y0, y1, y2, y3, y4, y5⟩, _⟩ := e2.six
    go_wp2_with fail
    refine (values_same t.args Aa Aa' ca ca' W HA.out.1 HA.out.2 (by omega) HAV.out).mono ?_
    rintro e w1 ⟨rfl, hb1⟩
    have f1 := e1.below hb1
    have f2 := e2.below hb1
    have q1 := Lib.hid (below_step HQ.out HQ.out.size hb1)
    have HR1 := Lib.hid (And.intro (HR.out.1.mono hb1) (HR.out.2.mono hb1))
    have HK1 := Lib.hid (And.intro (HK.out.1.below hb1) (HK.out.2.below hb1))
    clear x0 x1 x2 x3 x4 x5 y0 y1 y2 y3 y4 y5 e1 e2 HA HR HK hb1 HQ
    obtain ⟨⟨x0, x1, x2, x3, x4, x5⟩, _⟩ := f1.six
    obtain ⟨⟨y0, y1, y2, y3, y4, y5⟩, _⟩ := f2.six
    go_wp2_with fail
    refine (equal_any t.res t.res AL AL' cL cL' w1 HR1.out.1 HR1.out.2 (by omega) (by omega)).mono ?_
    rintro e w2 ⟨rfl, hb2⟩
    rw [HEQ.out]
    have g1 := f1.below hb2
    have g2 := f2.below hb2
    have q2 := Lib.hid (below_step q1.out q1.out.size hb2)
    have HK2 := Lib.hid (And.intro (HK1.out.1.below hb2) (HK1.out.2.below hb2))
    clear x0 x1 x2 x3 x4 x5 y0 y1 y2 y3 y4 y5 f1 f2 HR1 HK1 hb2 q1
    obtain ⟨⟨x0, x1, x2, x3, x4, x5⟩, _⟩ := g1.six
    obtain ⟨⟨y0, y1, y2, y3, y4, y5⟩, _⟩ := g2.six
    have hne : ((t.calls.length : Int) != t.calls.length) = false := by simp
    go_wp2_with fail
    clear hne x0 x1 x2 x3 x4 x5 y0 y1 y2 y3 y4 y5
    go_loopw [32] (fun i wr => ∃ k : Nat, k ≤ t.calls.length ∧ i = .int .i64 k ∧ Below w2.heap.size w2 wr) (fun i _ => t.calls.length - (intOf i).toNat)
    case atStart => exact ⟨0, by omega, rfl, Below.refl _ _⟩
    case round =>
      obtain ⟨k, hk, rfl, hb⟩ := hrel
      by_cases hin : k < t.calls.length
      · have hgy := goodL_get HGL.out (List.getElem?_eq_getElem hin)
        obtain ⟨kb, ko, Ba, da, BL, dL, Bc, dc, rfl, hlt, c0, c1, c2, c3, c4, c5, k1, k2, k3⟩ := (HK2.out.1.below hb).kid hin
        obtain ⟨kb', ko', Ba', da', BL', dL', Bc', dc', rfl, hlt', c0', c1', c2', c3', c4', c5', k1', k2', k3'⟩ := (HK2.out.2.below hb).kid hin
        have hsz := kid_le (List.getElem?_eq_getElem hin)
        generalize t.calls[k] = y at *
        obtain ⟨⟨_, _, _, _, _, x5⟩, _⟩ := (g1.below hb).six
        obtain ⟨⟨_, _, _, _, _, y5⟩, _⟩ := (g2.below hb).six
        have x5' := cell_regrown x5
        have y5' := cell_regrown y5
        have a0 := cell_regrown c0
        have a1 := cell_regrown c1
        have a2 := cell_regrown c2
        have a3 := cell_regrown c3
        have a4 := cell_regrown c4
        have a5 := cell_regrown c5
        have b0 := cell_regrown c0'
        have b1 := cell_regrown c1'
        have b2 := cell_regrown c2'
        have b3 := cell_regrown c3'
        have b4 := cell_regrown c4'
        have b5 := cell_regrown c5'
        have HKK := Lib.hid (And.intro (And.intro k1 k1') (And.intro (And.intro k2 k2') (And.intro k3 k3')))
        have HGY := Lib.hid hgy
        have r1 : (0 : Int) ≤ k := by omega
        have r2 : (k : Int) < t.calls.length := by omega
        have hsy : SizeOf.sizeOf y ≤ N := by omega
        have HIH := Lib.hid (ih y hsy hgy)
        clear k1 k1' k2 k2' k3 k3' hgy
        go_wp2_with fail
        refine wp_region_quiet_below (by kernel_rfl) (by kernel_rfl) ?_
        repeat (first | go_big_quiet_step ((go_at_call 29; exact Calls.regrown_of (HIH.out _ _ _ _ _ _ _ _ _ _ _ _ _ _ _ (HKK.out.1.1.below (below_regrown _ _ _)) (HKK.out.1.2.below (below_regrown _ _ _)) (HKK.out.2.1.1.below (below_regrown _ _ _)) (HKK.out.2.1.2.below (below_regrown _ _ _)) (HKK.out.2.2.1.below (below_regrown _ _ _)) (HKK.out.2.2.2.below (below_regrown _ _ _))))) | quiet_step ((go_at_call 29; exact Calls.regrown_of (HIH.out _ _ _ _ _ _ _ _ _ _ _ _ _ _ _ (HKK.out.1.1.below (below_regrown _ _ _)) (HKK.out.1.2.below (below_regrown _ _ _)) (HKK.out.2.1.1.below (below_regrown _ _ _)) (HKK.out.2.1.2.below (below_regrown _ _ _)) (HKK.out.2.2.1.below (below_regrown _ _ _)) (HKK.out.2.2.2.below (below_regrown _ _ _))))))
        refine wpQuiet_nil ?_
        intro w3 hw'
        obtain ⟨⟨dq, osq⟩, hw''⟩ := hw'
        have hb3 := below_regrown wr dq osq
        rw [← hw''] at hb3
        clear hw''
        have q := below_step hb hb.size hb3
        clear c0 c1 c2 c3 c4 c5 c0' c1' c2' c3' c4' c5' a0 a1 a2 a3 a4 a5 b0 b1 b2 b3 b4 b5 x5 y5 x5' y5'
        go_wp2_with fail
        exact ⟨⟨k + 1, by omega, by go_num, q⟩, by simp [intOf]; omega⟩
      · go_wp2_with fail
        go_ret
        exact ⟨rfl, below_step q2.out q2.out.size hb⟩


def RetSub (bl : Nat) (n : Int) (t : Tr) (w : World) (e : Ending) (w' : World) : Prop :=
  e = .returned (.bool true) ∧ Fr w w' (fun k => k = bl) ∧ ∃ n' : Int, n - stepsT t ≤ n' ∧ n' ≤ n ∧ Bx w' bl #[.int .i64 n']
/-- Where a call tree lies, outside of block bl. -/
structure TrB (w : World) (bl : Nat) (t : Tr) (Aa : Option Addr) (AL : Option Addr) (cL : Nat) (Ac : Option Addr) : Prop where
  a : VlsX w (fun k => k = bl) Aa t.args
  r : IntsC w (fun k => k = bl) AL cL t.res.l
  k : TrsX w (fun k => k = bl) Ac t.calls
theorem TrB.fr {w w' : World} {bl : Nat} {t : Tr} {Aa AL Ac : Option Addr} {cL : Nat} (h : TrB w bl t Aa AL cL Ac) (hf : Fr w w' (fun k => k = bl)) : TrB w' bl t Aa AL cL Ac :=
  ⟨h.a.le (Le.of_fr hf (fun _ _ e => e) fun _ _ e => e), h.r.le (Le.of_fr hf (fun _ _ e => e) fun _ _ e => e), h.k.le (Le.of_fr hf (fun _ _ e => e) fun _ _ e => e)⟩
theorem TrB.below {w w' : World} {bl : Nat} {t : Tr} {Aa AL Ac : Option Addr} {cL : Nat} (h : TrB w bl t Aa AL cL Ac) (hb : Below w.heap.size w w') : TrB w' bl t Aa AL cL Ac := h.fr (Fr.of_below hb _)
theorem VlsX.all {w : World} {X : Nat → Prop} {A : Option Addr} {l : List Vl} (h : VlsX w X A l) : VlsX w (fun _ => False) A l := h.le (Le.less fun _ _ e => e.elim)
theorem IntsC.all {w : World} {X : Nat → Prop} {A : Option Addr} {c : Nat} {l : List Int} (h : IntsC w X A c l) : IntsC w (fun _ => False) A c l := h.le (Le.less fun _ _ e => e.elim)
theorem TrsX.all {w : World} {X : Nat → Prop} {A : Option Addr} {l : List Tr} (h : TrsX w X A l) : TrsX w (fun _ => False) A l := h.le (Le.less fun _ _ e => e.elim)

/-- Where a call tree lies. -/
structure TrI (w : World) (X : Nat → Prop) (t : Tr) (Aa AL : Option Addr) (cL : Nat) (Ac : Option Addr) : Prop where
  a : VlsX w X Aa t.args
  r : IntsC w X AL cL t.res.l
  k : TrsX w X Ac t.calls
theorem TrI.le {w w' : World} {X X' : Nat → Prop} {t : Tr} {Aa AL Ac : Option Addr} {cL : Nat} (h : TrI w X t Aa AL cL Ac) (hl : Le w X w' X') : TrI w' X' t Aa AL cL Ac := ⟨h.a.le hl, h.r.le hl, h.k.le hl⟩
theorem TrI.below {w w' : World} {X : Nat → Prop} {t : Tr} {Aa AL Ac : Option Addr} {cL : Nat} (h : TrI w X t Aa AL cL Ac) (hb : Below w.heap.size w w') : TrI w' X t Aa AL cL Ac := h.le (Le.of_fr (Fr.of_below hb (fun _ => False)) (fun _ _ e => e.elim) fun _ _ e => e)
theorem RetS.tr {t : Tr} {left : Nat} {X : Nat → Prop} {w w' : World} {e : Ending} {tf : Int} (htf : t.func = tf) (h : RetS (.ok t left) true X w e w') : ∃ Ab cb BL dL Bc dc, e = .returned (.tuple #[.agg #[.int .i64 tf, .slice Ab t.args.length cb, .bool t.res.list, .int .i64 t.res.n, .slice BL t.res.l.length dL, .slice Bc t.calls.length dc], .int .i64 0]) ∧ Below w.heap.size w w' ∧ TrI w' X t Ab BL dL Bc := by
  obtain ⟨hb, h4⟩ := h
  rcases h4 with ⟨_, ho, _⟩ | ⟨_, _, ho, _, cs, htc, _, rfl⟩
  · cases ho
  cases ho
  have htt : trT true t = t := rfl
  rw [htt] at htc
  obtain ⟨Ab, cb, BL, dL, Bc, dc, rfl, k1, k2, k3⟩ := htc
  exact ⟨Ab, cb, BL, dL, Bc, dc, by rw [htf], hb, k1, k2, k3⟩
def TrCut (W wc : World) (P : Nat) (tf : Int) (t : Tr) (Ab : Option Addr) (cb : Nat) (BL : Option Addr) (dL : Nat) (Bc : Option Addr) (dc : Nat) : Prop :=
  Below W.heap.size W wc ∧ W.heap.size ≤ P ∧ Bx wc P #[.int .i64 tf, .slice Ab t.args.length cb, .bool t.res.list, .int .i64 t.res.n, .slice BL t.res.l.length dL, .slice Bc t.calls.length dc] ∧ TrI wc (fun _ => False) t Ab BL dL Bc
theorem tr_new {W w6 : World} {X : Nat → Prop} {tf : Int} {t : Tr} {Ab BL Bc : Option Addr} {cb dL dc : Nat} (hb : Below W.heap.size W w6) (h : TrI w6 X t Ab BL dL Bc) : TrCut W (w6.alloc (Obj.cells #[.int .i64 tf, .slice Ab t.args.length cb, .bool t.res.list, .int .i64 t.res.n, .slice BL t.res.l.length dL, .slice Bc t.calls.length dc] 32)) w6.heap.size tf t Ab cb BL dL Bc dc :=
  ⟨below_step hb hb.size (below_box _ _), hb.size, bx_new _ _ _, (h.below (below_box _ _)).le (Le.less fun _ _ e => e.elim)⟩
theorem tr_set {W w6 : World} {X : Nat → Prop} {P : Nat} {tf : Int} {t : Tr} {Ab BL Bc : Option Addr} {cb dL dc : Nat} (hb : Below W.heap.size W w6) (hP : W.heap.size ≤ P) (hB : Bx w6 P #[.int .i64 0, .slice none 0 0, .bool false, .int .i64 0, .slice none 0 0, .slice none 0 0]) (h : TrI w6 X t Ab BL dL Bc) (hX : X P) : TrCut W ((((((w6.setCell ⟨P, 0, none⟩ (.int .i64 tf)).setCell ⟨P, 1, none⟩ (.slice Ab t.args.length cb)).setCell ⟨P, 2, none⟩ (.bool t.res.list)).setCell ⟨P, 3, none⟩ (.int .i64 t.res.n)).setCell ⟨P, 4, none⟩ (.slice BL t.res.l.length dL)).setCell ⟨P, 5, none⟩ (.slice Bc t.calls.length dc)) P tf t Ab cb BL dL Bc dc :=
  ⟨(Fr.set6 w6 P _ _ _ _ _ _).toBelow hb hb.size (fun k e => by omega), hP, hB.set6 _ _ _ _ _ _, h.le (Le.of_fr (Fr.set6 w6 P _ _ _ _ _ _) (fun k _ e => by rw [e]; exact hX) fun _ _ e => e.elim)⟩
theorem RetCall.tr {t : Tr} {left : Nat} {w w' : World} {e : Ending} (h : RetCall (.ok t left) w e w') : ∃ A6 c6, e = .returned (.tuple #[.agg #[.bool t.res.list, .int .i64 t.res.n, .slice A6 t.res.l.length c6], .int .i64 0]) ∧ Below w.heap.size w w' ∧ IntsC w' (fun k => k < w.heap.size) A6 c6 t.res.l := by
  obtain ⟨hb, h4⟩ := h
  rcases h4 with ⟨_, ho, _⟩ | ⟨_, _, ho, _, A6, c6, h6, rfl⟩
  · cases ho
  cases ho
  exact ⟨A6, c6, rfl, hb, h6⟩
def VlCut (W wc : World) (P : Nat) (t : Tr) (A6 : Option Addr) (c6 : Nat) : Prop :=
  Below W.heap.size W wc ∧ W.heap.size ≤ P ∧ Bx wc P #[.bool t.res.list, .int .i64 t.res.n, .slice A6 t.res.l.length c6] ∧ IntsC wc (fun _ => False) A6 c6 t.res.l
theorem vl_new {W w6 : World} {X : Nat → Prop} {t : Tr} {A6 : Option Addr} {c6 : Nat} (hb : Below W.heap.size W w6) (h : IntsC w6 X A6 c6 t.res.l) : VlCut W (w6.alloc (Obj.cells #[.bool t.res.list, .int .i64 t.res.n, .slice A6 t.res.l.length c6] 29)) w6.heap.size t A6 c6 :=
  ⟨below_step hb hb.size (below_box _ _), hb.size, bx_new _ _ _, (h.below (below_box _ _)).le (Le.less fun _ _ e => e.elim)⟩
theorem vl_set {W w6 : World} {X : Nat → Prop} {P : Nat} {t : Tr} {A6 : Option Addr} {c6 : Nat} (hb : Below W.heap.size W w6) (hP : W.heap.size ≤ P) (hB : Bx w6 P #[.bool false, .int .i64 0, .slice none 0 0]) (h : IntsC w6 X A6 c6 t.res.l) (hX : X P) : VlCut W (((w6.setCell ⟨P, 0, none⟩ (.bool t.res.list)).setCell ⟨P, 1, none⟩ (.int .i64 t.res.n)).setCell ⟨P, 2, none⟩ (.slice A6 t.res.l.length c6)) P t A6 c6 :=
  ⟨(Fr.set3 w6 P _ _ _).toBelow hb hb.size (fun k e => by omega), hP, hB.set3 _ _ _, h.le (Le.of_fr (Fr.set3 w6 P _ _ _) (fun k _ e => by rw [e]; exact hX) fun _ _ e => e.elim)⟩

set_option maxRecDepth 100000 in
set_option maxHeartbeats 2000000 in
theorem subtrees_any (lib : List Fn1) (A : Option Addr) (cap : Nat) (W0 : World) (hL : LibAt W0 A lib) (hF : LibFit lib) (hfp : FewParams lib) (hfn : FewNodes lib) (hvl : (validR lib).2 = 0) (bl : Nat) (hbl : W0.heap.size ≤ bl) (N : Nat) : ∀ (t : Tr), SizeOf.sizeOf t ≤ N → goodT apR lib t → ∀ (n : Int) (Aa : Option Addr) (ca : Nat) (AL : Option Addr) (cL : Nat) (Ac : Option Addr) (cc : Nat) (w : World), Below W0.heap.size W0 w → Bx w bl #[.int .i64 n] → (stepsT t : Int) - 2000000 ≤ n → n ≤ 40 → TrB w bl t Aa AL cL Ac →
    Calls Try.prog 17 #[.slice A lib.length cap, .agg #[.int .i64 t.func, .slice Aa t.args.length ca, .bool t.res.list, .int .i64 t.res.n, .slice AL t.res.l.length cL, .slice Ac t.calls.length cc], .pointer (some ⟨bl, 0, none⟩)] w (RetSub bl n t w) := by
  induction N with
  | zero => intro t ht; exfalso; cases t; simp at ht
  | succ N ih =>
    intro t ht hg n Aa ca AL cL Ac cc w hW hB hn hn40 hT
    obtain ⟨⟨i, fn, left, hti, hfi, hsr, hal⟩, hav, hrv, hst⟩ := good_start hvl hg
    have hi : i < lib.length := (List.getElem?_eq_some_iff.1 hfi).1
    have hpn : t.args.length ≤ 400000 := by have := hfp _ _ hfi; omega
    clear hal
    have hll := hF.1
    have HG := Lib.hid hg
    have HAV := Lib.hid hav
    have HSR := Lib.hid hsr
    have hse := stepsT_eq t
    have hlen : t.calls.length ≤ stepsL t.calls := by
      generalize t.calls = c
      induction c with
      | nil => simp
      | cons x r ih => cases x; rw [stepsL, stepsT, List.length_cons]; omega
    have hcl : t.calls.length ≤ 2000 := by omega
    have HSE := Lib.hid hse
    have hbn := hB.lt
    have hne : w.heap.size ≠ bl := by omega
    have hsz : (w.setCell ⟨bl, 0, none⟩ (.int .i64 (n - 1))).heap.size = w.heap.size := by simp
    have b1 := below_box (w.setCell ⟨bl, 0, none⟩ (.int .i64 (n - 1))) (Obj.cells #[.int .i64 t.func, .slice Aa t.args.length ca, .bool t.res.list, .int .i64 t.res.n, .slice AL t.res.l.length cL, .slice Ac t.calls.length cc] 32)
    have e2 := bx_new (w.setCell ⟨bl, 0, none⟩ (.int .i64 (n - 1))) #[.int .i64 t.func, .slice Aa t.args.length ca, .bool t.res.list, .int .i64 t.res.n, .slice AL t.res.l.length cL, .slice Ac t.calls.length cc] 32
    rw [hsz] at e2
    have eB2 : Bx _ bl #[.int .i64 (n - 1)] := (hB.set 0 (.int .i64 (n - 1))).below b1
    have f2 : Fr w ((w.setCell ⟨bl, 0, none⟩ (.int .i64 (n - 1))).alloc (Obj.cells #[.int .i64 t.func, .slice Aa t.args.length ca, .bool t.res.list, .int .i64 t.res.n, .slice AL t.res.l.length cL, .slice Ac t.calls.length cc] 32)) (fun k => k = bl) := (Fr.of_set w ⟨bl, 0, none⟩ (.int .i64 (n - 1))).trans (Fr.of_below b1 _) fun _ _ e => e
    have HT2 := Lib.hid (hT.fr f2)
    have HW2 := Lib.hid (f2.toBelow hW hW.size (fun k e => by omega))
    have p0 : w.cell? ⟨bl, 0, none⟩ = some (.int .i64 n) := hB.cell rfl
    have pf := hB.free 0
    clear hg hav hT hsr hsz b1
    rw [hti] at e2 f2 HT2 HW2 eB2 ⊢
    by_cases hneg : n < 1
    · go_enter Try.func17, Try.ntmps17
      go_wp2_with fail
      go_ret
      exact ⟨rfl, f2, n - 1, by omega, by omega, eB2⟩
    go_enter Try.func17, Try.ntmps17
    go_wp2_with fail
    generalize World.alloc _ _ = W2 at e2 eB2 f2 HT2 HW2 ⊢
    clear p0 pf
    have hfi2 : lib[i] = fn := by have := List.getElem?_eq_getElem hi; rw [hfi] at this; exact (Option.some.inj this).symm
    obtain ⟨b, o, hA, hfo⟩ := (hL.mono HW2.out).at_ hi
    have z0 : W2.cell? ⟨b, o + i * 7, none⟩ = some (.string fn.name) := by rw [← hfi2]; exact hfo.1
    subst hA
    have HLL := Lib.hid (show ∀ V : World, Below W0.heap.size W0 V → LibAt V (some ⟨b, o, none⟩) lib ∧ V.cell? ⟨b, o + i * 7, none⟩ = some (.string fn.name) from fun V hV => ⟨hL.mono hV, by
      obtain ⟨b', o', hA, hfo⟩ := (hL.mono hV).at_ hi
      cases hA
      rw [← hfi2]; exact hfo.1⟩)
    have zb : b < W2.heap.size := block_lt_of_cell z0
    clear hfo hL hfi
    have r1 : (0 : Int) ≤ i := by omega
    have r2 : (i : Int) < lib.length := by omega
    have KS := Lib.hid (fun (Y : World) (hY : Below W2.heap.size W2 Y) => show Y.cell? ⟨w.heap.size, 0, none⟩ = some (.int .i64 i) ∧ Y.cell? ⟨w.heap.size, 1, none⟩ = some (.slice Aa t.args.length ca) ∧ Y.cell? ⟨b, o + i * 7, none⟩ = some (.string fn.name) from ⟨(e2.below hY).cell rfl, (e2.below hY).cell rfl, (HLL.out Y (below_step HW2.out HW2.out.size hY)).2⟩)
    have KC := Lib.hid (fun (Y : World) (hY : Below W2.heap.size W2 Y) => trace_anyX (fun k => W2.heap.size ≤ k ∧ k < Y.heap.size) lib (some ⟨b, o, none⟩) cap fn.name t.args Aa ca 2000 Y (fun k e => e.2) (HLL.out Y (below_step HW2.out HW2.out.size hY)).1 hF hfp hfn (HT2.out.a.all.le (Le.of_fr (Fr.of_below hY (fun _ => False)) (fun _ _ e => e.elim) fun k hk e => by omega)) (fun v hv => by have := HAV.out v hv; omega) (by omega) (by omega))
    rw [HSR.out] at KC
    have hbP := Below.refl W2.heap.size W2
    obtain ⟨⟨x0, x1, x2, x3, x4, x5⟩, _⟩ := e2.six
    go_cut [7, 8] (fun p q wc => ∃ (P : Nat) (Ab : Option Addr) (cb : Nat) (BL : Option Addr) (dL : Nat) (Bc : Option Addr) (dc : Nat), p = .pointer (some ⟨P, 0, none⟩) ∧ q = .int .i64 0 ∧ Hid (TrCut W2 wc P i t Ab cb BL dL Bc dc))
    case first =>
      go_region_held3 (fun w' => w'.cell? ⟨w.heap.size, 0, none⟩ = some (.int .i64 i) ∧ w'.cell? ⟨w.heap.size, 1, none⟩ = some (.slice Aa t.args.length ca) ∧ w'.cell? ⟨b, o + i * 7, none⟩ = some (.string fn.name))
        (first | (with_reducible exact S6.out) | (with_reducible exact S7.out) | (with_reducible exact S8.out) | (with_reducible exact S9.out) | (refine KS.out _ ?_; (repeat first | exact hbP | refine belowDrawn ?_ | refine Below.alloc ?_ (by first | exact Nat.le_refl _ | exact hbP.size | simp) _); done))
        (first | (go_at_call 12; refine (KC.out _ ?_).mono ?_; (repeat first | exact hbP | refine belowDrawn ?_ | refine Below.alloc ?_ (by first | exact Nat.le_refl _ | exact hbP.size | simp) _); rintro e w6 hr; obtain ⟨Ab, cb, BL, dL, Bc, dc, rfl, hb6, hti6⟩ := RetS.tr hti hr; have hY6 : Below W2.heap.size W2 w6 := below_step (by (repeat first | exact hbP | refine belowDrawn ?_ | refine Below.alloc ?_ (by first | exact Nat.le_refl _ | exact hbP.size | simp) _)) (by simp) hb6; have S6 := Lib.hid (KS.out _ hY6); have S8 := Lib.hid (KS.out _ (below_step hY6 hY6.size (below_box w6 (Obj.cells #[.int .i64 i, .slice Ab t.args.length cb, .bool t.res.list, .int .i64 t.res.n, .slice BL t.res.l.length dL, .slice Bc t.calls.length dc] 32)))); have S9 := Lib.hid (KS.out _ (below_step hY6 hY6.size (below_box w6 (Obj.cells #[.int .i64 0, .slice none 0 0, .bool false, .int .i64 0, .slice none 0 0, .slice none 0 0] 32)))); (first | (have bP : Bx w6 W2.heap.size #[.int .i64 0, .slice none 0 0, .bool false, .int .i64 0, .slice none 0 0, .slice none 0 0] := (show Bx (W2.alloc (Obj.cells #[.int .i64 0, .slice none 0 0, .bool false, .int .i64 0, .slice none 0 0, .slice none 0 0] 32)).drew W2.heap.size #[.int .i64 0, .slice none 0 0, .bool false, .int .i64 0, .slice none 0 0, .slice none 0 0] from bx_new W2 _ _).below hb6; have CA := Lib.hid ((tr_set (tf := (i : Int)) (cb := cb) (dc := dc)) hY6 (Nat.le_refl _) bP hti6 (by first | exact ⟨Nat.le_refl _, by simp⟩ | simp)); have S7 := Lib.hid (KS.out _ CA.out.1); obtain ⟨⟨p0, p1, p2, p3, p4, p5⟩, g0, g1, g2, g3, g4, g5⟩ := bP.six; have hPl := bP.lt) | (have CA := Lib.hid ((tr_new (tf := (i : Int)) (cb := cb) (dc := dc)) hY6 hti6))); clear hti6 hY6 hb6) | fail)
      all_goals
        go_wp2_with fail
        go_meet
        exact ⟨_, Ab, cb, BL, dL, Bc, dc, rfl, rfl, CA⟩
    obtain ⟨bo, Ab, cb, BL, dL, Bc, dc, rfl, rfl, hca⟩ := hcut
    clear x0 x1 x2 x3 x4 x5 z0 KS KC
    obtain ⟨q5, hbo, g5, hti5⟩ := hca.out
    obtain ⟨W5, rfl⟩ : ∃ x, x = wc := ⟨_, rfl⟩
    have e5 := e2.below q5
    have eB5 := eB2.below q5
    have f5 := f2.trans (Fr.of_below q5 (fun k => k = bl)) fun _ _ e => e
    have HT5 := Lib.hid (HT2.out.below q5)
    have HW5 := Lib.hid (below_step HW2.out HW2.out.size q5)
    have HK5 := Lib.hid hti5
    clear e2 eB2 f2 HT2 HW2 hca hti5 hbP
    have KS := Lib.hid (fun (Y : World) (hY : Below W5.heap.size W5 Y) => show Y.cell? ⟨w.heap.size, 0, none⟩ = some (.int .i64 i) ∧ Y.cell? ⟨w.heap.size, 1, none⟩ = some (.slice Aa t.args.length ca) ∧ Y.cell? ⟨b, o + i * 7, none⟩ = some (.string fn.name) from ⟨(e5.below hY).cell rfl, (e5.below hY).cell rfl, (HLL.out Y (below_step HW5.out HW5.out.size hY)).2⟩)
    have KC := Lib.hid (fun (Y : World) (hY : Below W5.heap.size W5 Y) => evcall_any lib (some ⟨b, o, none⟩) cap fn.name t.args Aa ca 2000 Y (HLL.out Y (below_step HW5.out HW5.out.size hY)).1 hF hfp hfn (HT5.out.a.all.below hY) (fun v hv => by have := HAV.out v hv; omega) (by omega) (by omega))
    rw [HSR.out] at KC
    have hbP := Below.refl W5.heap.size W5
    obtain ⟨⟨x0, x1, x2, x3, x4, x5⟩, _⟩ := e5.six
    have z0 := (HLL.out W5 HW5.out).2
    go_wp2_with fail
    go_cut [9, 10] (fun p q wc => ∃ (P : Nat) (A6 : Option Addr) (c6 : Nat), p = .pointer (some ⟨P, 0, none⟩) ∧ q = .int .i64 0 ∧ Hid (VlCut W5 wc P t A6 c6))
    case first =>
      go_region_held3 (fun w' => w'.cell? ⟨w.heap.size, 0, none⟩ = some (.int .i64 i) ∧ w'.cell? ⟨w.heap.size, 1, none⟩ = some (.slice Aa t.args.length ca) ∧ w'.cell? ⟨b, o + i * 7, none⟩ = some (.string fn.name))
        (first | (with_reducible exact S6.out) | (with_reducible exact S7.out) | (with_reducible exact S8.out) | (with_reducible exact S9.out) | (refine KS.out _ ?_; (repeat first | exact hbP | refine belowDrawn ?_ | refine Below.alloc ?_ (by first | exact Nat.le_refl _ | exact hbP.size | simp) _); done))
        (first | (go_at_call 13; refine (KC.out _ ?_).mono ?_; (repeat first | exact hbP | refine belowDrawn ?_ | refine Below.alloc ?_ (by first | exact Nat.le_refl _ | exact hbP.size | simp) _); rintro e w6 hr; obtain ⟨A6, c6, rfl, hb6, hti6⟩ := RetCall.tr hr; have hY6 : Below W5.heap.size W5 w6 := below_step (by (repeat first | exact hbP | refine belowDrawn ?_ | refine Below.alloc ?_ (by first | exact Nat.le_refl _ | exact hbP.size | simp) _)) (by simp) hb6; have S6 := Lib.hid (KS.out _ hY6); have S8 := Lib.hid (KS.out _ (below_step hY6 hY6.size (below_box w6 (Obj.cells #[.bool t.res.list, .int .i64 t.res.n, .slice A6 t.res.l.length c6] 29)))); have S9 := Lib.hid (KS.out _ (below_step hY6 hY6.size (below_box w6 (Obj.cells #[.bool false, .int .i64 0, .slice none 0 0] 29)))); (first | (have bP : Bx w6 W5.heap.size #[.bool false, .int .i64 0, .slice none 0 0] := (show Bx (W5.alloc (Obj.cells #[.bool false, .int .i64 0, .slice none 0 0] 29)).drew W5.heap.size #[.bool false, .int .i64 0, .slice none 0 0] from bx_new W5 _ _).below hb6; have CA := Lib.hid (vl_set hY6 (Nat.le_refl _) bP hti6 (by first | exact ⟨Nat.le_refl _, by simp⟩ | simp)); have S7 := Lib.hid (KS.out _ CA.out.1); obtain ⟨p0, p1, p2, g0, g1, g2⟩ := bP.three; have hPl := bP.lt) | (have CA := Lib.hid (vl_new hY6 hti6))); clear hti6 hY6 hb6) | fail)
      all_goals
        go_wp2_with fail
        go_meet
        exact ⟨_, A6, c6, rfl, rfl, CA⟩
    obtain ⟨bv, A6, c6, rfl, rfl, hca⟩ := hcut
    clear x0 x1 x2 x3 x4 x5 z0 KS KC
    obtain ⟨q8, hbv, v8, hi6⟩ := hca.out
    obtain ⟨W8, rfl⟩ : ∃ x, x = wc := ⟨_, rfl⟩
    have g8 := g5.below q8
    have e8 := e5.below q8
    have eB8 := eB5.below q8
    have f8 := f5.trans (Fr.of_below q8 (fun k => k = bl)) fun _ _ e => e
    have HT8 := Lib.hid (HT5.out.below q8)
    have HW8 := Lib.hid (below_step HW5.out HW5.out.size q8)
    have HK8 := Lib.hid (And.intro (HK5.out.a.below q8) (And.intro (HK5.out.r.below q8) (HK5.out.k.below q8)))
    have HV8 := Lib.hid hi6
    clear g5 e5 eB5 f5 HT5 HW5 HK5 q8 hi6 hca
    obtain ⟨⟨x0, x1, x2, x3, x4, x5⟩, _⟩ := e8.six
    obtain ⟨⟨y0, y1, y2, y3, y4, y5⟩, _⟩ := g8.six
    obtain ⟨v0, v1, v2, _⟩ := v8.three
    go_wp2_with fail
    refine (equalT_same lib hvl hfp _ t (Nat.le_refl _) HG.out _ _ _ _ _ _ _ _ _ _ _ _ _ _ W8 HK8.out.1.all HT8.out.a.all HK8.out.2.1.all HT8.out.r.all HK8.out.2.2.all HT8.out.k.all).mono ?_
    rintro e w9 ⟨rfl, hb9⟩
    have g9 := g8.below hb9
    have e9 := e8.below hb9
    have eB9 := eB8.below hb9
    have v9 := v8.below hb9
    have f9 := f8.trans (Fr.of_below hb9 (fun k => k = bl)) fun _ _ e => e
    have HT9 := Lib.hid (HT8.out.below hb9)
    have HW9 := Lib.hid (below_step HW8.out HW8.out.size hb9)
    have HV9 := Lib.hid (HV8.out.below hb9)
    clear x0 x1 x2 x3 x4 x5 y0 y1 y2 y3 y4 y5 v0 v1 v2 g8 e8 eB8 v8 f8 HT8 HW8 HK8 HV8 hb9
    obtain ⟨⟨x0, x1, x2, x3, x4, x5⟩, _⟩ := e9.six
    obtain ⟨⟨y0, y1, y2, y3, y4, y5⟩, _⟩ := g9.six
    obtain ⟨v0, v1, v2, _⟩ := v9.three
    have hii : ((i : Int) != i) = false := by simp
    go_wp2_with fail
    refine (equal_any t.res t.res A6 AL c6 cL w9 HV9.out.at_ HT9.out.r.at_ (by omega) (by omega)).mono ?_
    rintro e wA ⟨rfl, hbA⟩
    rw [eqV_refl]
    have eA := e9.below hbA
    have eBA := eB9.below hbA
    have fA := f9.trans (Fr.of_below hbA (fun k => k = bl)) fun _ _ e => e
    have HTA := Lib.hid (HT9.out.below hbA)
    have HWA := Lib.hid (below_step HW9.out HW9.out.size hbA)
    clear x0 x1 x2 x3 x4 x5 y0 y1 y2 y3 y4 y5 v0 v1 v2 e9 g9 v9 eB9 f9 HT9 HW9 HV9 hbA hii
    obtain ⟨⟨x0, x1, x2, x3, x4, x5⟩, _⟩ := eA.six
    have HGL := Lib.hid (good_calls HG.out)
    go_wp2_with fail
    clear x0 x1 x2 x3 x4 x5
    go_loopw [87] (fun j wr => ∃ (k : Nat) (n' : Int), k ≤ t.calls.length ∧ j = .int .i64 k ∧ n - 1 - stepsL (t.calls.take k) ≤ n' ∧ n' ≤ n - 1 ∧ Hid (Fr wA wr (fun k => k = bl)) ∧ Hid (Bx wr bl #[.int .i64 n'])) (fun j _ => t.calls.length - (intOf j).toNat)
    case atStart => exact ⟨0, n - 1, by omega, rfl, by simp [stepsL], by omega, Lib.hid (Fr.refl _ _), Lib.hid eBA⟩
    case round =>
      obtain ⟨k, n', hk, rfl, hn1, hn2, hfr, hbx⟩ := hrel
      have HTr := Lib.hid (HTA.out.fr hfr.out)
      have HWr := Lib.hid (hfr.out.toBelow HWA.out HWA.out.size (fun k e => by omega))
      by_cases hin : k < t.calls.length
      · have hz1 := stepsL_step hin
        have hle := stepsL_le (l := t.calls) (k + 1)
        have hgy := goodL_get HGL.out (List.getElem?_eq_getElem hin)
        obtain ⟨kb, ko, Ba, da, EL, gL, Ec, gc, rfl, hlt, c0, c1, c2, c3, c4, c5, k1, k2, k3⟩ := HTr.out.k.kid hin
        have hsz := kid_le (List.getElem?_eq_getElem hin)
        generalize t.calls[k] = y at *
        have HZ1 := Lib.hid hz1
        have hse2 := HSE.out
        have hb1 : (stepsT y : Int) - 2000000 ≤ n' := by omega
        have bb := below_box wr (Obj.cells #[.int .i64 y.func, .slice Ba y.args.length da, .bool y.res.list, .int .i64 y.res.n, .slice EL y.res.l.length gL, .slice Ec y.calls.length gc] 32)
        have HKY := Lib.hid (show TrB _ bl y Ba EL gL Ec from (TrB.mk k1 k2 k3).below bb)
        have HBX := Lib.hid (hbx.out.below bb)
        have HFR := Lib.hid (hfr.out.trans (Fr.of_below bb (fun k => k = bl)) fun _ _ e => e)
        have HWY := Lib.hid (below_step HWr.out HWr.out.size bb)
        have hsy : SizeOf.sizeOf y ≤ N := by omega
        have HIH := Lib.hid (ih y hsy hgy)
        clear hz1 hle k1 k2 k3 hbx hfr hgy hse2
        go_wp2_with fail
        generalize wr.alloc _ = W2 at *
        refine (HIH.out n' Ba da EL gL Ec gc W2 HWY.out HBX.out hb1 (by omega) HKY.out).mono ?_
        rintro e w3 ⟨rfl, hf3, n3, hn3, hn4, hb3⟩
        have HF3 := Lib.hid (HFR.out.trans hf3 fun _ _ e => e)
        have HB3 := Lib.hid hb3
        clear hf3 hb3
        go_wp2_with fail
        exact ⟨⟨k + 1, n3, by omega, by go_num, by rw [HZ1.out]; omega, by omega, HF3, HB3⟩, by simp [intOf]; omega⟩
      · obtain rfl : k = t.calls.length := by omega
        rw [List.take_length] at hn1
        have hse2 := HSE.out
        go_wp2_with fail
        go_ret
        exact ⟨rfl, fA.trans hfr.out fun _ _ e => e, n', by omega, by omega, hbx.out⟩

set_option maxRecDepth 100000 in
set_option maxHeartbeats 2000000 in
theorem funevalSubtrees_walk (lib : List Fn1) (A : Option Addr) (cap : Nat) (name : ByteArray) (args : List Vl) (Aa : Option Addr) (ca : Nat) (w : World) (hL : LibAt w A lib) (hF : LibFit lib) (hV : VlsX w (fun _ => False) Aa args) (hvl : ∀ v ∈ args, v.l.length ≤ 9223372036854775807) (hal : args.length ≤ 9223372036854775807) :
    Calls Try.prog 5 #[.slice A lib.length cap, .string name, .slice Aa args.length ca] w fun e w' => e = .returned (.bool true) ∧ Below w.heap.size w w' := by
  have HL := Lib.hid hL
  have HV := Lib.hid hV
  have HVL := Lib.hid hvl
  clear hL hV hvl
  go_enter Try.func5, Try.ntmps5
  go_wp2_with fail
  refine (awake_any w).mono ?_
  rintro e w1 ⟨rfl, hb1⟩
  have q1 := Lib.hid hb1
  clear hb1
  go_wp2_with fail
  refine (Great_any lib A cap args Aa ca w1 (HL.out.mono q1.out) hF (HV.out.mono q1.out) HVL.out hal).mono ?_
  rintro e w2 ⟨g, rfl, hg, hb2⟩
  have q2 := Lib.hid (below_step q1.out q1.out.size hb2)
  have HG := Lib.hid hg
  clear hb2 hg q1
  cases g with
  | true => go_wp2_with fail; go_ret; exact ⟨rfl, q2.out⟩
  | false =>
    have HS := Lib.hid (HG.out rfl)
    clear HG
    go_wp2_with fail
    refine (trace_any lib A cap name args Aa ca 2000 w2 (HL.out.mono q2.out) hF HS.out.fp HS.out.fn (HV.out.mono q2.out) HS.out.vl HS.out.al (by omega)).mono ?_
    rintro e w3 ⟨hb3, h3⟩
    have q3 := Lib.hid (below_step q2.out q2.out.size hb3)
    clear hb3 q2
    rcases h3 with ⟨n, ho3, hn0, rfl⟩ | ⟨t, f1, ho3, htl, cs, htc, _, rfl⟩
    · have hne : (n == 0) = false := by simpa using hn0
      have bb := below_box w3 (Obj.cells #[.int .i64 0, .slice none 0 0, .bool false, .int .i64 0, .slice none 0 0, .slice none 0 0] 32)
      have q4 := Lib.hid (below_step q3.out q3.out.size bb)
      clear ho3 bb
      go_wp2_with fail
      go_ret
      exact ⟨rfl, q4.out⟩
    obtain ⟨hvd, hgood⟩ := startR_good ho3
    have hst := (good_start hvd hgood).st
    have HGD := Lib.hid (And.intro hvd hgood)
    clear ho3 hvd hgood
    obtain ⟨Ab, cb, AL, cL, Ac, cc, rfl, k1, k2, k3⟩ := htc
    have htt : trT true t = t := rfl
    rw [htt] at k1 k2 k3 ⊢
    clear htt
    have b4 := below_box w3 (Obj.cells #[.int .i64 t.func, .slice Ab t.args.length cb, .bool t.res.list, .int .i64 t.res.n, .slice AL t.res.l.length cL, .slice Ac t.calls.length cc] 32)
    have b5 := below_box (w3.alloc (Obj.cells #[.int .i64 t.func, .slice Ab t.args.length cb, .bool t.res.list, .int .i64 t.res.n, .slice AL t.res.l.length cL, .slice Ac t.calls.length cc] 32)) (Obj.cells #[.int .i64 40] 3)
    have c5 := bx_new (w3.alloc (Obj.cells #[.int .i64 t.func, .slice Ab t.args.length cb, .bool t.res.list, .int .i64 t.res.n, .slice AL t.res.l.length cL, .slice Ac t.calls.length cc] 32)) #[.int .i64 40] 3
    have b35 := below_step b4 b4.size b5
    have hsz : (w3.alloc (Obj.cells #[.int .i64 t.func, .slice Ab t.args.length cb, .bool t.res.list, .int .i64 t.res.n, .slice AL t.res.l.length cL, .slice Ac t.calls.length cc] 32)).heap.size = w3.heap.size + 1 := by simp
    rw [hsz] at c5
    have q5 := Lib.hid (below_step q3.out q3.out.size b35)
    have HT5 := Lib.hid (show TrB _ (w3.heap.size + 1) t Ab AL cL Ac from ⟨k1.le (Le.of_fr (Fr.of_below b35 (fun _ => False)) (fun _ _ e => e) fun k hk e => by omega), k2.le (Le.of_fr (Fr.of_below b35 (fun _ => False)) (fun _ _ e => e) fun k hk e => by omega), k3.le (Le.of_fr (Fr.of_below b35 (fun _ => False)) (fun _ _ e => e) fun k hk e => by omega)⟩)
    have hws : w.heap.size ≤ w3.heap.size + 1 := by have := q3.out.size; omega
    clear b4 b5 b35 k1 k2 k3 hsz
    go_wp2_with fail
    generalize World.alloc _ _ = W5 at c5 q5 HT5 ⊢
    refine (subtrees_any lib A cap w HL.out hF HS.out.fp HS.out.fn HGD.out.1 (w3.heap.size + 1) hws _ t (Nat.le_refl _) HGD.out.2 40 Ab cb AL cL Ac cc W5 q5.out c5 (by omega) (by omega) HT5.out).mono ?_
    rintro e w6 ⟨rfl, hf6, _⟩
    have q6 := Lib.hid (hf6.toBelow q5.out q5.out.size (fun k e => by omega))
    clear hf6
    go_wp2_with fail
    go_ret
    exact ⟨rfl, q6.out⟩

end Go.Proofs.Ytgokgcnalgpiiaa

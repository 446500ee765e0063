/-
  The visitor's expr: let.
  The visitor's expr: operations. Where the loop over the arguments stands.
  The visitor's expr: operations, the walk.
-/
import Derived.Test.YtcoeakdpcigogaaDoorAnfEx1
namespace Go.Proofs.YtcoeakdpcigogaaDoor
open Go.ChangeShapes Go.WideShapes Go.ChangeAt Go.RowKit Go.Sort Go.Maps

variable {s : Nc} {pb po : Nat} {X0 : Nat → Prop} {n n' : Nat} {env env' : ByteArray → Option Pm} {ts ts' : List Pm} {ut ut' : Value} {bs : List Bd} {ub ub' : Value} {w w' w3 : World}
theorem Ns.map (h : Ns s pb po X0 n env ts ut bs ub w) (hm : MapP w' s.M n' env') (hf : Fr w w' (fun k => k = s.M)) : Ns s pb po X0 n' env' ts ut bs ub w' := by
  obtain ⟨u4, ht, h4⟩ := h.t
  obtain ⟨cs, ho, hr⟩ := h.own
  have hpl := block_lt_of_cell h.c
  have hge := fun g e => (own_ty ht.own g e).1
  have hgu := fun g e => (own_ty ho g e).1
  have hmb := h.mb
  exact ⟨⟨u4, ⟨hf.toBelow ht.bw ht.bw.size fun k e => by have e' : k = s.M := e; rw [e']; exact h.ml, ht.lo, ht.o.fr hf fun e => h.mo e.symm, hf.own ht.own fun g e e2 => by have := hge g e; have e' : g = s.M := e2; omega, ht.ob, by have := ht.bs; have := hf.size; omega⟩, h4⟩, h.v.fr hf fun e => h.mv e.symm, h.vo, h.vb, h.vl, hm, h.mo, h.mv, h.mb, h.ml, h.p4, h.pv, h.pm, h.pl, fun q => by rw [hf.block _ hpl h.pm]; exact h.ty q, ⟨cs, hf.own ho fun g e e2 => by have := hgu g e; have e' : g = s.M := e2; omega, hr.map (BdC.le (Le.of_fr hf (fun k _ e => .inr (.inr (.inl e))) (fun k _ e => e)))⟩, fun k hk => by have := h.x0 k hk; have := hf.size; omega⟩
theorem ng_sub {W : World} {ut1 ub1 : Value} (h1 : Nwb W ut ut1) (h2 : Nwb W ub ub1) {k : Nat} (hk : k < W.heap.size) (h : Ng s pb ut1 ub1 k) : Ng s pb ut ub k := by
  rcases h with e | e | e | e | e
  · exact .inl e
  · exact .inr (.inl e)
  · rcases h1 k e.symm with q | q
    · exact .inr (.inr (.inl q.symm))
    · omega
  · exact .inr (.inr (.inr (.inl e)))
  · rcases h2 k e.symm with q | q
    · exact .inr (.inr (.inr (.inr q.symm)))
    · omega
theorem ng_old (q : s.O < w.heap.size ∧ s.V < w.heap.size ∧ s.M < w.heap.size ∧ pb < w.heap.size ∧ (∀ g, ut.ownBlock = some g → g < w.heap.size) ∧ (∀ g, ub.ownBlock = some g → g < w.heap.size) ∧ s.W0.heap.size ≤ w.heap.size) {k : Nat} (h : Ng s pb ut ub k) : k < w.heap.size := by
  rcases h with e | e | e | e | e
  · omega
  · omega
  · exact q.2.2.2.2.1 k e.symm
  · omega
  · exact q.2.2.2.2.2.1 k e.symm
theorem Nwb.trans {W W' : World} {u u1 u2 : Value} (h1 : Nwb W u u1) (h2 : Nwb W' u1 u2) (hb : W.heap.size ≤ W'.heap.size) : Nwb W u u2 := fun g e => by
  rcases h2 g e with q | q
  · exact h1 g q
  · right; omega
/-- A kid in memory. -/
theorem kid_cells {W0 W : World} {Ak : Option Addr} {l : List Nd} (h : NdsAt W0 Ak l) (hb : Below W0.heap.size W0 W) {k : Nat} {y : Nd} (hy : l[k]? = some y) : ∃ b o Ay cy, Ak = some ⟨b, o, none⟩ ∧ W.cell? ⟨b, o + k * 4, none⟩ = some (.int .u8 y.kind) ∧ W.cell? ⟨b, o + k * 4 + 1, none⟩ = some (.int .i64 y.num) ∧ W.cell? ⟨b, o + k * 4 + 2, none⟩ = some (.string y.name) ∧ W.cell? ⟨b, o + k * 4 + 3, none⟩ = some (.slice Ay y.kids.length cy) ∧ NdsAt W0 Ay y.kids ∧ b < W0.heap.size := by
  obtain ⟨b, o, e, h5⟩ := h k y hy
  obtain ⟨A6, c6, q0, q1, q2, q3, q4⟩ := h5.open_
  exact ⟨b, o, A6, c6, e, below_cell hb q0, below_cell hb q1, below_cell hb q2, below_cell hb q3, q4, block_lt_of_cell q0⟩
theorem fit_kidA {lib : List Fn1} {x y : Nd} {k : Nat} (hy : x.kids[k]? = some y) (hf : NdFit x) (hm : formT x = true) (ha : arT lib x = true) : NdFit y ∧ formT y = true ∧ arT lib y = true := by
  refine ⟨hf.kid hy, formTL_kid (formT_kids hm).2 hy, ?_⟩
  rw [arT_eq] at ha
  exact arTL_kid (Bool.and_eq_true_iff.1 ha).2 hy
theorem Ns.bw (h : Ns s pb po X0 n env ts ut bs ub w) : Below s.W0.heap.size s.W0 w := by obtain ⟨_, ht, _⟩ := h.t; exact ht.bw
theorem two_kids {x : Nd} (h : formT x = true) (hk : x.kind = 84) : ∃ a b, x.kids = [a, b] := by
  have hlen := form_len2 h hk
  match hy : x.kids, hlen with
  | [c, d], _ => exact ⟨c, d, rfl⟩
theorem setP_back {env : ByteArray → Option Pm} {q : ByteArray} {p : Pm} (h : (env q).isSome = false) : setP (setP env q (some p)) q none = env := by
  funext t
  unfold setP
  by_cases e : t = q
  · subst e
    rw [if_pos rfl]
    cases h2 : env t with
    | none => rfl
    | some _ => rw [h2] at h; cases h
  · rw [if_neg e, if_neg e]
theorem setP_dom {env : ByteArray → Option Pm} {q : ByteArray} {p : Pm} : (fun t => (setP env q (some p) t).isSome) = addD (fun t => (env t).isSome) q := by
  funext t
  unfold setP addD
  by_cases e : t = q
  · rw [if_pos e, if_pos e]; rfl
  · rw [if_neg e, if_neg e]

theorem nx_fin2 {X' : Nat → Prop} {W w5 : World} {u1 ub1 : Value} {ts1 : List Pm} {bs1 : List Bd} {n1 : Nat} (q : s.O < w.heap.size ∧ s.V < w.heap.size ∧ s.M < w.heap.size ∧ pb < w.heap.size ∧ (∀ g, ut.ownBlock = some g → g < w.heap.size) ∧ (∀ g, ub.ownBlock = some g → g < w.heap.size) ∧ s.W0.heap.size ≤ w.heap.size) (hb : Below w.heap.size w W) (z2 : W.heap.size = w.heap.size + 2)
    (hx0 : ∀ k, X0 k → X' k) (hx1 : X' (w.heap.size + 1)) (hm : Ns s pb po X' n1 env ts1 u1 bs1 ub1 w5) (hf : Fr W w5 (Ng s pb ut ub)) (hn1 : Nwb W ut u1) (hn4 : Nwb W ub ub1) (v0 v1 : Value) :
    Ns s pb po X0 n1 env ts1 u1 bs1 ub1 ((w5.setCell ⟨w.heap.size + 1, 0, none⟩ v0).setCell ⟨w.heap.size + 1, 1, none⟩ v1) ∧ Fr w ((w5.setCell ⟨w.heap.size + 1, 0, none⟩ v0).setCell ⟨w.heap.size + 1, 1, none⟩ v1) (Ng s pb ut ub) ∧ Nwb w ut u1 ∧ Nwb w ub ub1 := by
  refine ⟨hm.close (Fr.set2 w5 (w.heap.size + 1) v0 v1) (fun k e => by have e' : k = w.heap.size + 1 := e; rw [e']; exact hx1) (fun k e => ?_) hx0, (((Fr.of_below hb (Ng s pb ut ub)).trans hf fun _ _ e => e)).trans (Fr.set2 w5 (w.heap.size + 1) v0 v1) (fun k hk e => by omega), hn1.mono (by omega), hn4.mono (by omega)⟩
  subst e
  refine ⟨by omega, by omega, by omega, by omega, fun e => ?_, fun e => ?_, by omega⟩
  · rcases hn1 _ e with e | e
    · have := q.2.2.2.2.1 _ e; omega
    · omega
  · rcases hn4 _ e with e | e
    · have := q.2.2.2.2.2.1 _ e; omega
    · omega

set_option maxRecDepth 100000 in
set_option maxHeartbeats 2000000 in
theorem nex_84 {x : Nd} (h84 : x.kind = 84) (ih : ∀ y, SizeOf.sizeOf y < SizeOf.sizeOf x → NexC s y) : NexC s x := by
  intro pb po X0 n env ts ut bs ub w Ak ck h hp
  obtain ⟨ya, yb, hab⟩ := two_kids hp.form h84
  obtain ⟨hbx, hx4, hx6, hsz⟩ := two_boxN w #[.int .u8 x.kind, .int .i64 x.num, .string x.name, .slice Ak x.kids.length ck] #[.string ⟨#[]⟩, .bool false]
  have hNS := hp.ns
  rw [nsT_eq, if_pos h84, hab] at hNS
  simp only [nsLet, Bool.and_eq_true_iff, Bool.not_eq_true'] at hNS
  have hza : sizeT ya + sizeT yb + 1 = sizeT x := by rw [sizeT_eq x, hab]; simp only [sizeTL]; omega
  have hlt2 : SizeOf.sizeOf ya < SizeOf.sizeOf x ∧ SizeOf.sizeOf yb < SizeOf.sizeOf x := by
    cases x with
    | mk k1 n1 s1 l1 =>
      have e : l1 = [ya, yb] := hab
      subst e
      simp
      omega
  have hka := fit_kidA (k := 0) (y := ya) (by rw [hab]; rfl) hp.fit hp.form hp.ar
  have hkb := fit_kidA (k := 1) (y := yb) (by rw [hab]; rfl) hp.fit hp.form hp.ar
  have HIA := Lib.hid (ih ya hlt2.1)
  have HIB := Lib.hid (ih yb hlt2.2)
  have HEA := Lib.hid (nE_ext s.lib ya env ts)
  have HR := Lib.hid (show nE s.lib x env ts = ⟨(nE s.lib ya env ts).bs ++ (nE s.lib yb (setP env x.name (some (nE s.lib ya env ts).p)) (nE s.lib ya env ts).ts).bs, (nE s.lib yb (setP env x.name (some (nE s.lib ya env ts).p)) (nE s.lib ya env ts).ts).p, (nE s.lib yb (setP env x.name (some (nE s.lib ya env ts).p)) (nE s.lib ya env ts).ts).ts⟩ from by rw [nE_84 h84, hab, nLet])
  have HN := Lib.hid (h.open hbx)
  have HX4 := Lib.hid hx4
  have HX6 := Lib.hid hx6
  have HB := Lib.hid hbx
  have HSZ := Lib.hid hsz
  have HL0 := Lib.hid h.olds
  have HP := Lib.hid hp
  have hnm := hp.fit.facts.2.2.1
  have HLEN := Lib.hid (show x.kids.length = 2 by rw [hab]; rfl)
  have HAB := Lib.hid hab
  clear h hp hbx hx4 hx6 hsz ih hab
  rw [h84] at HX4 HN HB HSZ HX6 ⊢
  go_enter Tryd.func45, Tryd.ntmps45
  go_upto_region 1 with fail
  generalize (w.alloc _).alloc _ = W at HX4 HX6 HN HB HSZ ⊢
  obtain ⟨a0, a1, a2, a3, _⟩ := HX4.out.four
  obtain ⟨kb, ko, Aa, ca, rfl, e0, e1, e2, e3, e4, e5⟩ := kid_cells HP.out.kids HN.out.bw (k := 0) (y := ya) (by rw [HAB.out]; rfl)
  have HKA := Lib.hid e4
  simp only [Nat.zero_mul, Nat.add_zero] at e0 e1 e2 e3
  have hlt4 := HX4.out.lt
  have hltk : kb < W.heap.size := block_lt_of_cell e0
  have r1 : (0 : Int) < x.kids.length := by have := HLEN.out; omega
  have r2 : 0 < x.kids.length := by have := HLEN.out; omega
  clear e4 e5
  obtain ⟨ra, hra⟩ : ∃ ra, nE s.lib ya env ts = ra := ⟨_, rfl⟩
  have HCA := Lib.hid (HIA.out pb po _ n env ts ut bs ub W Aa ca HN.out ⟨HP.out.hW, HP.out.lib, HP.out.lfit, HKA.out, hka.1, hka.2.1, hka.2.2, hNS.1.2, by have := HP.out.tl; omega, by have := HP.out.bl; omega, by have := HP.out.nl; omega⟩)
  rw [hra] at HCA HR HEA
  go_upto_region 5 with fail
  go_wp2_with fail
  refine HCA.out.mono ?_
  rintro e w5 ⟨rfl, n1, u1, b1, hn1, hs5, hf5, hnu5, hnb5⟩
  have hb6 := below_box w5 (Obj.cells #[.string ra.p.name, .bool ra.p.list] 65)
  have HM6 := Lib.hid (hs5.open hb6)
  have HX46 := Lib.hid ((HX4.out.fr hf5 (fun e => by have := ng_old HL0.out e; omega)).below hb6)
  have HX66 := Lib.hid ((HX6.out.fr hf5 (fun e => by have := ng_old HL0.out e; omega)).below hb6)
  have HX76 := Lib.hid (bx_new w5 #[.string ra.p.name, .bool ra.p.list] 65)
  have HF6 := Lib.hid (hf5.trans (Fr.of_below hb6 (Ng s pb ut ub)) (fun _ _ e => e))
  have HO5 := Lib.hid hs5.olds
  have HN6 := Lib.hid (And.intro hnu5 hnb5)
  have HS6 := Lib.hid (And.intro (show W.heap.size ≤ w5.heap.size from hf5.size) (show (w5.alloc (Obj.cells #[.string ra.p.name, .bool ra.p.list] 65)).heap.size = w5.heap.size + 1 by simp))
  clear hb6 hs5 hf5 hnu5 hnb5 e0 e1 e2 e3 a0 a1 a2 a3 hlt4 hltk
  go_upto_region 6 with fail
  generalize w5.alloc _ = W6 at HM6 HX46 HX66 HX76 HF6 HS6 ⊢
  obtain ⟨a0, a1, a2, a3, _⟩ := HX46.out.four
  obtain ⟨y0, y1, _⟩ := HX76.out.two
  obtain ⟨x0, x1, x2, x3, _⟩ := Bx.four HM6.out.v
  have hlt4 := HX46.out.lt
  have hlt7 := HX76.out.lt
  have hltv := HM6.out.v.lt
  obtain ⟨w7, hput, hmap, hturn⟩ := mapP_put (t := 106) Tryd.underlying106 HM6.out.drew.m (by have := HP.out.nl; unfold maxLen; omega) x.name (by unfold maxLen; omega) ra.p
  have HM7 := Lib.hid (HM6.out.drew.map hmap (Fr.of_turned hturn))
  have HF7 := Lib.hid (((Fr.of_below (belowDrawnP (Below.refl _ W6)) (fun k => k = s.M)).trans (Fr.of_turned hturn) (fun _ _ e => e)))
  clear hmap hturn
  unfold pV at hput
  go_region
  all_goals
    have HX47 := Lib.hid (HX46.out.fr HF7.out (fun e => by have q := HL0.out; have e' : w.heap.size = s.M := e; omega))
    have HX67 := Lib.hid (HX66.out.fr HF7.out (fun e => by have q := HL0.out; have e' : w.heap.size + 1 = s.M := e; omega))
    have HS7 := Lib.hid (show W6.heap.size ≤ w7.heap.size from HF7.out.size)
    obtain ⟨kb2, ko2, Ab, cb, ek, e0, e1, e2, e3, e4, e5⟩ := kid_cells HP.out.kids HM7.out.bw (k := 1) (y := yb) (by rw [HAB.out]; rfl)
    cases ek
    have HKB := Lib.hid e4
    simp only [Nat.one_mul] at e0 e1 e2 e3
    clear e4 e5 a0 a1 a2 a3 y0 y1 x0 x1 x2 x3 hlt4 hlt7 hltv hput
    obtain ⟨rb, hrb⟩ : ∃ rb, nE s.lib yb (setP env x.name (some ra.p)) ra.ts = rb := ⟨_, rfl⟩
    have HRB := Lib.hid hrb
    have HCB := Lib.hid (HIB.out pb po _ (n1 + 1) (setP env x.name (some ra.p)) ra.ts u1 (bs ++ ra.bs) b1 w7 Ab cb HM7.out ⟨HP.out.hW, HP.out.lib, HP.out.lfit, HKB.out, hkb.1, hkb.2.1, hkb.2.2, by rw [setP_dom]; exact hNS.2, by have := HP.out.tl; obtain ⟨ex, e, h2⟩ := HEA.out.pre; rw [e, List.length_append]; omega, by have := HP.out.bl; have := HEA.out.bs; rw [List.length_append]; omega, by have := HP.out.nl; have := sizeT_eq ya; omega⟩)
    rw [hrb] at HCB HR
    have hltk := block_lt_of_cell e0
    have hlt4 := HX47.out.lt
    obtain ⟨a0, a1, a2, a3, _⟩ := HX47.out.four
    have r3 : (1 : Int) < x.kids.length := by have := HLEN.out; omega
    have r4 : 1 < x.kids.length := by have := HLEN.out; omega
    clear hrb
    go_upto_region 7 with fail
    go_wp2_with fail
    refine HCB.out.mono ?_
    rintro e w8 ⟨rfl, n2, u2, b2, hn2, hs8, hf8, hnu8, hnb8⟩
    have HSW8 := Lib.hid (show w7.heap.size ≤ w8.heap.size from hf8.size)
    have hb9 := below_box w8 (Obj.cells #[.string rb.p.name, .bool rb.p.list] 65)
    have HM9 := Lib.hid (hs8.open hb9)
    have hold2 : ∀ k, w.heap.size ≤ k → k < W.heap.size → ¬ Ng s pb u1 b1 k := fun k h1 h2 e => by have := ng_old HL0.out (ng_sub HN6.out.1 HN6.out.2 h2 e); omega
    have HX49 := Lib.hid ((HX47.out.fr hf8 (hold2 _ (Nat.le_refl _) (by have := HSZ.out; omega))).below hb9)
    have HX69 := Lib.hid ((HX67.out.fr hf8 (hold2 _ (Nat.le_succ _) (by have := HSZ.out; omega))).below hb9)
    have HX89 := Lib.hid (bx_new w8 #[.string rb.p.name, .bool rb.p.list] 65)
    have HF9 := Lib.hid (((HF6.out.trans HF7.out (fun k _ e => .inl e)).trans hf8 (fun k hk e => ng_sub HN6.out.1 HN6.out.2 hk e)).trans (Fr.of_below hb9 (Ng s pb ut ub)) (fun _ _ e => e))
    have HN9 := Lib.hid (show Nwb W ut u2 ∧ Nwb W ub b2 from ⟨HN6.out.1.trans hnu8 (by have := HS6.out; have := HS7.out; omega), HN6.out.2.trans hnb8 (by have := HS6.out; have := HS7.out; omega)⟩)
    clear hb9 hs8 hf8 hnu8 hnb8 e0 e1 e2 e3 a0 a1 a2 a3 hlt4 hltk hold2
    go_upto_region 8 with fail
    generalize w8.alloc _ = W9 at HM9 HX49 HX69 HX89 HF9 ⊢
    obtain ⟨a0, a1, a2, a3, _⟩ := HX49.out.four
    obtain ⟨y0, y1, _⟩ := HX89.out.two
    obtain ⟨x0, x1, x2, x3, _⟩ := Bx.four HM9.out.v
    have hlt4 := HX49.out.lt
    have hlt8 := HX89.out.lt
    have hltv := HM9.out.v.lt
    have HMM := Lib.hid HM9.out.drew.m
    go_region_law (first
      | (refine step_del_P (by rfl) (.tmp 50) (.tmp 52) 106 (by rfl) Tryd.underlying106 s.M n2 (setP env x.name (some ra.p)) (by first | (simp [Act.eval]; done) | (simp [Act.eval, Act.put]; done)) HMM.out x.name (by first | (simp [Act.eval]; done) | (simp [Act.eval, Act.put]; done)) (by unfold maxLen; omega) ?_; intro w10 hmap hturn; rw [setP_back hNS.1.1] at hmap; have HM10 := Lib.hid (HM9.out.drew.map hmap (Fr.of_turned hturn)); have HF10 := Lib.hid (((Fr.of_below (belowDrawnP (Below.refl _ W9)) (fun k => k = s.M)).trans (Fr.of_turned hturn) (fun _ _ e => e))); clear hmap hturn)
      | fail)
    all_goals
      have HX610 := Lib.hid (HX69.out.fr HF10.out (fun e => by have q := HL0.out; have e' : w.heap.size + 1 = s.M := e; omega))
      have HX810 := Lib.hid (HX89.out.fr HF10.out (fun e => by have q := HL0.out; have e' : w8.heap.size = s.M := e; have := HS6.out; have := HS7.out; have := HF9.out.size; have := HX67.out.lt; have := HO5.out; have z := HM7.out.olds; have z8 := HSW8.out; omega))
      have HD := Lib.hid (nx_fin2 (X0 := X0) HL0.out HB.out HSZ.out (fun k e => .inl (.inl (.inl e))) (.inl (.inl (.inr ⟨by omega, by have := HSZ.out; omega⟩))) HM10.out (HF9.out.trans HF10.out (fun k _ e => .inl e)) HN9.out.1 HN9.out.2 (.string rb.p.name) (.bool rb.p.list))
      have HBF := Lib.hid (HX610.out.set2 (.string rb.p.name) (.bool rb.p.list))
      clear a0 a1 a2 a3 y0 y1 x0 x1 x2 x3 hlt4 hlt8 hltv
      obtain ⟨y0, y1, _⟩ := HX810.out.two
      obtain ⟨x0, x1, f0, f1⟩ := HX610.out.two
      have hlt6 := HX610.out.lt
      have hlt8 := HX810.out.lt
      clear HX49 HX69 HX89 HM9 HM10 HF9 HF10 HX46 HX66 HX76 HX47 HX67 HM6 HM7 HF6 HF7 HMM
      go_wp2_with fail
      generalize World.setCell _ _ _ = WF at HD HBF ⊢
      obtain ⟨g0, g1, _⟩ := HBF.out.two
      exact bodyPost_ret (v := .agg #[.string rb.p.name, .bool rb.p.list]) (by simp [results, Tryd.results45, go_sem, g0, g1]) rfl (by rw [HR.out]; exact ⟨rfl, n2, u2, b2, by omega, by rw [← List.append_assoc]; exact HD.out.1, HD.out.2⟩)

end Go.Proofs.YtcoeakdpcigogaaDoor

namespace Go.Proofs.YtcoeakdpcigogaaDoor
open Go.ChangeShapes Go.WideShapes Go.ChangeAt Go.RowKit Go.Sort Go.Maps

variable {s : Nc} {pb po : Nat} {X0 : Nat → Prop} {n n' : Nat} {env env' : ByteArray → Option Pm} {ts ts' : List Pm} {ut ut' : Value} {bs : List Bd} {ub ub' : Value} {w w' w3 : World}
theorem nArgs_snoc (lib : List Fn1) (call : Bool) (env : ByteArray → Option Pm) (y : Nd) : ∀ (l : List Nd) (ts : List Pm), nArgs lib call (l ++ [y]) env ts = ⟨(nArgs lib call l env ts).bs ++ (Nr.arg call y (nE lib y env (nArgs lib call l env ts).ts)).bs, (nArgs lib call l env ts).args ++ [(Nr.arg call y (nE lib y env (nArgs lib call l env ts).ts)).p.name], (Nr.arg call y (nE lib y env (nArgs lib call l env ts).ts)).ts⟩
  | [], ts => by rw [List.nil_append, nArgs, nArgs]; simp [nArgs]
  | z :: r, ts => by
    rw [List.cons_append, nArgs, nArgs_snoc lib call env y r, nArgs]
    simp
theorem nArgs_len (lib : List Fn1) (call : Bool) (env : ByteArray → Option Pm) : ∀ (l : List Nd) (ts : List Pm), (nArgs lib call l env ts).args.length = l.length
  | [], ts => by rw [nArgs]; rfl
  | y :: r, ts => by rw [nArgs]; simp [nArgs_len lib call env r]
theorem size_take {l : List Nd} {k : Nat} (h : k < l.length) : sizeTL (l.take k) + sizeT l[k] ≤ sizeTL l := by
  have h1 : sizeTL (l.take (k + 1)) = sizeTL (l.take k) + sizeT l[k] := by
    rw [List.take_succ_eq_append_getElem h, sizeTL_append]; simp [sizeTL]
  have h2 : sizeTL (l.take (k + 1)) + sizeTL (l.drop (k + 1)) = sizeTL l := by rw [← sizeTL_append, List.take_append_drop]
  omega
/-- Another open set. -/
theorem Ns.swap {X1 m : Nat → Prop} (h : Ns s pb po X1 n env ts ut bs ub w) (hf : Fr w w' m) (hm : ∀ k, k < w.heap.size → m k → X1 k) (hd : ∀ k, k < w.heap.size → m k → k ≠ s.O ∧ k ≠ s.V ∧ k ≠ s.M ∧ k ≠ pb ∧ ut.ownBlock ≠ some k ∧ ub.ownBlock ≠ some k ∧ s.W0.heap.size ≤ k) (hx : ∀ k, k < w.heap.size → X0 k → X1 k) (hx0 : ∀ k, X0 k → k < w'.heap.size) : Ns s pb po X0 n env ts ut bs ub w' := by
  have hf' : Fr w w' (fun k => m k ∧ k < w.heap.size) := hf.mono fun k hk e => ⟨e, hk⟩
  have h1 := h.close (X0 := fun k => X0 k ∧ k < w.heap.size) hf' (fun k e => hm k e.2 e.1) (fun k e => hd k e.2 e.1) (fun k e => hx k e.2 e.1)
  obtain ⟨cs, ho, hr⟩ := h1.own
  obtain ⟨u4, ht, h4⟩ := h1.t
  obtain ⟨cs0, ho0, hr0⟩ := h.own
  have hf2 := hf'
  refine ⟨⟨u4, ht, h4⟩, h1.v, h1.vo, h1.vb, h1.vl, h1.m, h1.mo, h1.mv, h1.mb, h1.ml, h1.p4, h1.pv, h1.pm, h1.pl, h1.ty, ⟨cs0, hf'.own ho0 (fun g e e2 => (hd g e2.2 e2.1).2.2.2.2.2.1 e), hr0.map (BdC.le (Le.of_fr hf2 (fun k hk e => .inl (hm k hk e.1)) (fun k hk e => e.elim (fun e => .inl (hx k hk e)) .inr)))⟩, hx0⟩
/-- The open blocks while arguments are gathered. -/
def XA (X1 : Nat → Prop) (ua : Value) (k : Nat) : Prop := X1 k ∨ ua.ownBlock = some k
/-- Where the loop over the arguments stands. -/
structure OpR (s : Nc) (pb po : Nat) (X1 : Nat → Prop) (n : Nat) (env : ByteArray → Option Pm) (ts : List Pm) (ut : Value) (bs : List Bd) (ub : Value) (call : Bool) (l : List Nd) (b9 : Nat) (W : World) (k : Nat) (n1 : Nat) (ut1 ub1 ua : Value) (wr : World) : Prop where
  ns : Ns s pb po (XA X1 ua) n1 env (nArgs s.lib call (l.take k) env ts).ts ut1 (bs ++ (nArgs s.lib call (l.take k) env ts).bs) ub1 wr
  own : wr.ownsRow W.heap.size 9 1 ua k ((nArgs s.lib call (l.take k) env ts).args.map Value.string)
  fr : Fr W wr (fun q => Ng s pb ut ub q ∨ q = b9)
  nu : Nwb W ut ut1
  nb : Nwb W ub ub1
  nn : n1 ≤ n + sizeTL (l.take k)
theorem own_new {w : World} {B : Nat} {e e' : TypeId} {size n size' n' B' : Nat} {u v : Value} {xs ys : List Value} (h : w.ownsRow B e size u n xs) (h' : w.ownsRow B' e' size' v n' ys) (he : e ≠ e') : ∀ g, u.ownBlock = some g → v.ownBlock ≠ some g := fun g e1 e2 => by
  obtain ⟨_, cur, h2⟩ := own_ty h' _ e2
  obtain ⟨_, cur', h3⟩ := own_ty h _ e1
  rw [h2] at h3; cases h3; exact he rfl

/-- One more argument. -/
theorem OpR.push {X1 : Nat → Prop} {call : Bool} {l : List Nd} {b9 k n1 n2 : Nat} {W wr w5 w6 : World} {ut1 ub1 u2 b2 ua ua' : Value} {o : Obj} {r : Nr} {y : Nd} (h : OpR s pb po X1 n env ts ut bs ub call l b9 W k n1 ut1 ub1 ua wr)
    (q : s.O < b9 ∧ s.V < b9 ∧ s.M < b9 ∧ pb < b9 ∧ (∀ g, ut.ownBlock = some g → g < b9) ∧ (∀ g, ub.ownBlock = some g → g < b9) ∧ s.W0.heap.size ≤ b9) (hb9 : b9 < W.heap.size) (hx9 : X1 b9) (hx1 : ∀ k, X1 k → k < W.heap.size)
    (hy : l[k]? = some y) (hr : Nr.arg call y (nE s.lib y env (nArgs s.lib call (l.take k) env ts).ts) = r)
    (hs5 : Ns s pb po (XA X1 ua) n2 env r.ts u2 ((bs ++ (nArgs s.lib call (l.take k) env ts).bs) ++ r.bs) b2 w5) (hf5 : Fr wr w5 (Ng s pb ut1 ub1)) (hnu : Nwb wr ut1 u2) (hnb : Nwb wr ub1 b2) (hn2 : n2 ≤ n1 + sizeT y)
    (hown' : w6.ownsRow W.heap.size 9 1 ua' (k + 1) ((nArgs s.lib call (l.take k) env ts).args.map Value.string ++ [.string r.p.name])) (hgrow : (w5.alloc o).grownBy w6 ua.ownBlock) (hat : ua'.ownBlock = ua.ownBlock ∨ ua'.ownBlock = some (w5.alloc o).heap.size) (j : Nat) (v : Value) :
    OpR s pb po X1 n env ts ut bs ub call l b9 W (k + 1) n2 u2 b2 ua' (w6.setCell ⟨b9, j, none⟩ v) := by
  have hk : k < l.length := (List.getElem?_eq_some_iff.1 hy).1
  have hyk : l[k] = y := (List.getElem?_eq_some_iff.1 hy).2
  have htk : l.take (k + 1) = l.take k ++ [y] := by rw [List.take_succ_eq_append_getElem hk, hyk]
  have hWr := h.fr.size
  have hW5 := hf5.size
  have hnu2 := h.nu.trans hnu hWr
  have hnb2 := h.nb.trans hnb hWr
  have huaW : ∀ g, ua.ownBlock = some g → W.heap.size ≤ g := fun g e => (own_ty h.own g e).1
  have hua' : ∀ g, ua'.ownBlock = some g → W.heap.size ≤ g := fun g e => (own_ty hown' g e).1
  have hual : ∀ g, ua.ownBlock = some g → g < w5.heap.size := fun g e => by have := (h.own.lt g e).2; omega
  have hual' : ∀ g, ua'.ownBlock = some g → g < w6.heap.size := fun g e => (hown'.lt g e).2
  have hf6 : Fr w5 (w6.setCell ⟨b9, j, none⟩ v) (fun z => some z = ua.ownBlock ∨ z = b9) := (((Fr.of_below (below_box w5 o) (fun z => some z = ua.ownBlock ∨ z = b9)).trans (Fr.of_grown hgrow) fun z _ e => .inl e)).trans (Fr.of_set w6 ⟨b9, j, none⟩ v) fun z _ e => .inr e
  have hol := hs5.olds
  have hns := hs5
  obtain ⟨u4, ht5, _⟩ := hs5.t
  obtain ⟨cs5, ho5, _⟩ := hs5.own
  have hown5 : w5.ownsRow W.heap.size 9 1 ua k ((nArgs s.lib call (l.take k) env ts).args.map Value.string) := hf5.own h.own (fun g e e2 => by
    rcases e2 with e2 | e2 | e2 | e2 | e2
    · have := huaW g e; omega
    · have := huaW g e; omega
    · obtain ⟨u5, ht1, _⟩ := h.ns.t
      exact own_new h.own ht1.own (by decide) g e e2.symm
    · have := huaW g e; omega
    · obtain ⟨cs1, ho1, _⟩ := h.ns.own
      exact own_new h.own ho1 (by decide) g e e2.symm)
  refine ⟨?_, ?_, ?_, hnu2, hnb2, ?_⟩
  · rw [htk, nArgs_snoc, hr]
    rw [← List.append_assoc]
    refine hs5.swap hf6 (fun z _ e => ?_) (fun z hz e => ?_) (fun z hz e => ?_) (fun z e => ?_)
    · rcases e with e | e
      · exact .inr e.symm
      · rw [e]; exact .inl hx9
    · rcases e with e | e
      · have h1 := huaW z e.symm
        exact ⟨by omega, by omega, by omega, by omega, fun e2 => own_new hown5 ht5.own (by decide) z e.symm e2, fun e2 => own_new hown5 ho5 (by decide) z e.symm e2, by omega⟩
      · refine ⟨by omega, by omega, by omega, by omega, fun e2 => ?_, fun e2 => ?_, by omega⟩
        · rcases hnu2 _ e2 with p | p
          · have := q.2.2.2.2.1 _ p; omega
          · omega
        · rcases hnb2 _ e2 with p | p
          · have := q.2.2.2.2.2.1 _ p; omega
          · omega
    · rcases e with e | e
      · exact .inl e
      · rcases hat with p | p
        · exact .inr (p ▸ e)
        · rw [p] at e; cases e; simp at hz; omega
    · have hz6 := hf6.size
      rcases e with e | e
      · have := hx1 z e; omega
      · have := hual' z e; simp; omega
  · rw [htk, nArgs_snoc, hr]
    rw [List.map_append]
    exact (Fr.of_set w6 ⟨b9, j, none⟩ v).own hown' (fun g e e2 => by have := hua' g e; have e3 : g = b9 := e2; omega)
  · refine (h.fr.trans hf5 (fun z hz e => .inl (ng_sub h.nu h.nb hz e))).trans hf6 (fun z hz e => ?_)
    rcases e with e | e
    · have := huaW z e.symm; omega
    · exact .inr e
  · rw [htk, sizeTL_append]
    have := h.nn
    simp [sizeTL]
    omega

theorem OpR.own5 {X1 : Nat → Prop} {call : Bool} {l : List Nd} {b9 k n1 : Nat} {W wr w5 : World} {ut1 ub1 ua : Value} (h : OpR s pb po X1 n env ts ut bs ub call l b9 W k n1 ut1 ub1 ua wr) (q : s.O < W.heap.size ∧ s.M < W.heap.size ∧ pb < W.heap.size) (hf5 : Fr wr w5 (Ng s pb ut1 ub1)) : w5.ownsRow W.heap.size 9 1 ua k ((nArgs s.lib call (l.take k) env ts).args.map Value.string) := hf5.own h.own (fun g e e2 => by
    have := (own_ty h.own g e).1
    rcases e2 with e2 | e2 | e2 | e2 | e2
    · omega
    · omega
    · obtain ⟨u5, ht1, _⟩ := h.ns.t
      exact own_new h.own ht1.own (by decide) g e e2.symm
    · omega
    · obtain ⟨cs1, ho1, _⟩ := h.ns.own
      exact own_new h.own ho1 (by decide) g e e2.symm)

end Go.Proofs.YtcoeakdpcigogaaDoor

namespace Go.Proofs.YtcoeakdpcigogaaDoor
open Go.ChangeShapes Go.WideShapes Go.ChangeAt Go.RowKit Go.Sort Go.Maps

variable {s : Nc} {pb po : Nat} {X0 : Nat → Prop} {n n' : Nat} {env env' : ByteArray → Option Pm} {ts ts' : List Pm} {ut ut' : Value} {bs : List Bd} {ub ub' : Value} {w w' w3 : World}
theorem info_str : (Tryd.prog.info? 9).map (fun i => (i.zero, i.size, i.bytes)) = some (some (.string ⟨#[]⟩), 1, 16) := by kernel_rfl

theorem nx_fin3 {X' : Nat → Prop} {W w5 : World} {u1 ub1 : Value} {ts1 : List Pm} {bs1 : List Bd} {n1 : Nat} (q : s.O < w.heap.size ∧ s.V < w.heap.size ∧ s.M < w.heap.size ∧ pb < w.heap.size ∧ (∀ g, ut.ownBlock = some g → g < w.heap.size) ∧ (∀ g, ub.ownBlock = some g → g < w.heap.size) ∧ s.W0.heap.size ≤ w.heap.size) (z2 : w.heap.size + 2 ≤ W.heap.size)
    (hx0 : ∀ k, X0 k → X' k) (hx1 : X' (w.heap.size + 1)) (hm : Ns s pb po X' n1 env ts1 u1 bs1 ub1 w5) (hf : Fr w w5 (Ng s pb ut ub)) (hn1 : Nwb W ut u1) (hn4 : Nwb W ub ub1) (v0 v1 : Value) :
    Ns s pb po X0 n1 env ts1 u1 bs1 ub1 ((w5.setCell ⟨w.heap.size + 1, 0, none⟩ v0).setCell ⟨w.heap.size + 1, 1, none⟩ v1) ∧ Fr w ((w5.setCell ⟨w.heap.size + 1, 0, none⟩ v0).setCell ⟨w.heap.size + 1, 1, none⟩ v1) (Ng s pb ut ub) ∧ Nwb w ut u1 ∧ Nwb w ub ub1 := by
  refine ⟨hm.close (Fr.set2 w5 (w.heap.size + 1) v0 v1) (fun k e => by have e' : k = w.heap.size + 1 := e; rw [e']; exact hx1) (fun k e => ?_) hx0, hf.trans (Fr.set2 w5 (w.heap.size + 1) v0 v1) (fun k hk e => by omega), hn1.mono (by omega), hn4.mono (by omega)⟩
  subst e
  refine ⟨by omega, by omega, by omega, by omega, fun e => ?_, fun e => ?_, by omega⟩
  · rcases hn1 _ e with e | e
    · have := q.2.2.2.2.1 _ e; omega
    · omega
  · rcases hn4 _ e with e | e
    · have := q.2.2.2.2.2.1 _ e; omega
    · omega
theorem nx_fin4 {X' : Nat → Prop} {W w5 : World} {u1 ub1 p0 p1 : Value} {ts1 : List Pm} {bs1 : List Bd} {n1 m : Nat} {l : Bool} (q : s.O < w.heap.size ∧ s.V < w.heap.size ∧ s.M < w.heap.size ∧ pb < w.heap.size ∧ (∀ g, ut.ownBlock = some g → g < w.heap.size) ∧ (∀ g, ub.ownBlock = some g → g < w.heap.size) ∧ s.W0.heap.size ≤ w.heap.size) (z2 : w.heap.size + 2 ≤ W.heap.size)
    (hx0 : ∀ k, X0 k → X' k) (hx1 : X' (w.heap.size + 1)) (hm : Ns s pb po X' n1 env (ts1 ++ [⟨tmpN m, l⟩]) u1 bs1 ub1 w5) (hf : Fr w w5 (Ng s pb ut ub)) (hn1 : Nwb W ut u1) (hn4 : Nwb W ub ub1) (hx : Bx w5 (w.heap.size + 1) #[p0, p1]) :
    (Ns s pb po X0 n1 env (ts1 ++ [⟨tmpN m, l⟩]) u1 bs1 ub1 ((w5.setCell ⟨w.heap.size + 1, 0, none⟩ (.string (tmpN m))).setCell ⟨w.heap.size + 1, 1, none⟩ (.bool l)) ∧ Fr w ((w5.setCell ⟨w.heap.size + 1, 0, none⟩ (.string (tmpN m))).setCell ⟨w.heap.size + 1, 1, none⟩ (.bool l)) (Ng s pb ut ub) ∧ Nwb w ut u1 ∧ Nwb w ub ub1) ∧ Bx ((w5.setCell ⟨w.heap.size + 1, 0, none⟩ (.string (tmpN m))).setCell ⟨w.heap.size + 1, 1, none⟩ (.bool l)) (w.heap.size + 1) #[.string (tmpN m), .bool l] :=
  ⟨nx_fin3 q z2 hx0 hx1 hm hf hn1 hn4 _ _, hx.set2 _ _⟩
theorem listK_eq (k : Nat) : listK k = (((k : Int) == 86) || ((k : Int) == 87) || ((k : Int) == 89)) := by
  unfold listK
  have e : ∀ m : Nat, ((k : Int) == (m : Int)) = decide (k = m) := fun m => by
    by_cases h : k = m
    · subst h; simp
    · rw [beqK h]; simp [h]
  rw [show ((86 : Int)) = ((86 : Nat) : Int) from rfl, show ((87 : Int)) = ((87 : Nat) : Int) from rfl, show ((89 : Int)) = ((89 : Nat) : Int) from rfl, e 86, e 87, e 89]
  by_cases h1 : k = 86 <;> by_cases h2 : k = 87 <;> by_cases h3 : k = 89 <;> simp [h1, h2, h3]
theorem field0 (a : ByteArray) (b : Bool) (w : World) : (Instr.field 65 (.agg #[.string a, .bool b]) 0).run Tryd.prog w = .ok (.string a) w := by kernel_rfl

set_option maxRecDepth 100000 in
set_option maxHeartbeats 2000000 in
theorem nex_op {x : Nd} (h81 : x.kind ≠ 81) (h83 : x.kind ≠ 83) (h84 : x.kind ≠ 84) (h85 : x.kind ≠ 85) (ih : ∀ y, SizeOf.sizeOf y < SizeOf.sizeOf x → NexC s y) : NexC s x := by
  intro pb po X0 n env ts ut bs ub w Ak ck h hp
  obtain ⟨hbx, hx4, hx6, hsz⟩ := two_boxN w #[.int .u8 x.kind, .int .i64 x.num, .string x.name, .slice Ak x.kids.length ck] #[.string ⟨#[]⟩, .bool false]
  have HIH := Lib.hid ih
  have HN0 := Lib.hid h
  have HX4 := Lib.hid hx4
  have HX6 := Lib.hid hx6
  have HB := Lib.hid hbx
  have HSZ := Lib.hid hsz
  have HL0 := Lib.hid h.olds
  have HP := Lib.hid hp
  have HR := Lib.hid (nE_op (lib := s.lib) h81 h83 h84 h85 env ts)
  have k81 : ((x.kind : Int) == 81) = false := beqK (n := 81) h81
  have k83 : ((x.kind : Int) == 83) = false := beqK (n := 83) h83
  have k84 : ((x.kind : Int) == 84) = false := beqK (n := 84) h84
  have k85 : ((x.kind : Int) == 85) = false := beqK (n := 85) h85
  clear h hp hbx hx4 hx6 hsz ih
  go_enter Tryd.func45, Tryd.ntmps45
  go_upto_region 1 with fail
  generalize (w.alloc _).alloc _ = W1 at HX4 HX6 HB HSZ ⊢
  obtain ⟨a0, a1, a2, a3, _⟩ := HX4.out.four
  have hlt4 := HX4.out.lt
  have hb2 := below_box W1 (Obj.cells #[.string ⟨#[]⟩, .bool false, .int .u8 x.kind, .int .i64 x.num, .string ⟨#[]⟩, .slice none 0 0, .slice none 0 0, .slice none 0 0] 67)
  have HX9 := Lib.hid (bx_new W1 #[.string ⟨#[]⟩, .bool false, .int .u8 x.kind, .int .i64 x.num, .string ⟨#[]⟩, .slice none 0 0, .slice none 0 0, .slice none 0 0] 67)
  rw [HSZ.out] at HX9
  have HX42 := Lib.hid (HX4.out.below hb2)
  have HX62 := Lib.hid (HX6.out.below hb2)
  have HB2 := Lib.hid (below_step HB.out HB.out.size hb2)
  have HSZ2 := Lib.hid (show (W1.alloc (Obj.cells #[.string ⟨#[]⟩, .bool false, .int .u8 x.kind, .int .i64 x.num, .string ⟨#[]⟩, .slice none 0 0, .slice none 0 0, .slice none 0 0] 67)).heap.size = w.heap.size + 3 by simp [HSZ.out])
  clear hb2 HB
  have hs1 := HSZ.out
  go_upto_region 15 with fail
  generalize W1.alloc _ = W at HX9 HX42 HX62 HB2 HSZ2 ⊢
  have HN := Lib.hid (HN0.out.open HB2.out)
  have HX1 := Lib.hid (show ∀ k, (X0 k ∨ (w.heap.size ≤ k ∧ k < W.heap.size)) → k < W.heap.size from fun k e => e.elim (fun e => by have := HN0.out.x0 k e; have := HB2.out.size; omega) (fun e => e.2))
  have HQ := Lib.hid (show s.O < w.heap.size + 2 ∧ s.V < w.heap.size + 2 ∧ s.M < w.heap.size + 2 ∧ pb < w.heap.size + 2 ∧ (∀ g, ut.ownBlock = some g → g < w.heap.size + 2) ∧ (∀ g, ub.ownBlock = some g → g < w.heap.size + 2) ∧ s.W0.heap.size ≤ w.heap.size + 2 from by
    have q := HL0.out
    exact ⟨by omega, by omega, by omega, by omega, fun g e => by have := q.2.2.2.2.1 g e; omega, fun g e => by have := q.2.2.2.2.2.1 g e; omega, by omega⟩)
  have H0 := Lib.hid (show OpR s pb po (fun k => X0 k ∨ (w.heap.size ≤ k ∧ k < W.heap.size)) n env ts ut bs ub false x.kids (w.heap.size + 2) W 0 n ut ub (.slice none 0 0) W from by
    refine ⟨?_, ?_, Fr.refl _ _, Nwb.refl _ _, Nwb.refl _ _, by omega⟩
    · rw [List.take_zero, nArgs, List.append_nil]
      exact HN.out.swap (m := fun _ => False) (Fr.refl _ _) (fun _ _ e => e.elim) (fun _ _ e => e.elim) (fun k hk e => e.elim id (fun e => by cases e)) (fun k e => e.elim (HX1.out k) (fun e => by cases e))
    · rw [List.take_zero, nArgs]
      exact ⟨rfl, .inl ⟨rfl, rfl⟩⟩)
  obtain ⟨b0, b1, b2, b3, _⟩ := HX42.out.four
  have hlt42 := HX42.out.lt
  clear a0 a1 a2 a3 hlt4 hs1
  go_upto_region 16 with fail
  clear b0 b1 b2 b3
  go_loopw [74] (fun i wr => ∃ (k n1 : Nat) (ut1 ub1 : Value) (Aa : Option Addr) (ca : Nat), k ≤ x.kids.length ∧ i = .int .i64 k ∧ Hid (OpR s pb po (fun k => X0 k ∨ (w.heap.size ≤ k ∧ k < W.heap.size)) n env ts ut bs ub false x.kids (w.heap.size + 2) W k n1 ut1 ub1 (.slice Aa k ca) wr) ∧ Hid (Bx wr (w.heap.size + 2) #[.string ⟨#[]⟩, .bool false, .int .u8 x.kind, .int .i64 x.num, .string ⟨#[]⟩, .slice Aa k ca, .slice none 0 0, .slice none 0 0])) (fun i _ => x.kids.length - (intOf i).toNat)
  case atStart => exact ⟨0, n, ut, ub, none, 0, by omega, rfl, H0, HX9⟩
  case round =>
    obtain ⟨k, n1, ut1, ub1, Aa, ca, hk, rfl, hr, hx9⟩ := hrel
    by_cases hin : k < x.kids.length
    · obtain ⟨kb, ko, Ay, cy, rfl, e0, e1, e2, e3, e4, _⟩ := kid_cells HP.out.kids hr.out.ns.bw (k := k) (y := x.kids[k]) (List.getElem?_eq_getElem hin)
      have hky := fit_kidA (k := k) (y := x.kids[k]) (List.getElem?_eq_getElem hin) HP.out.fit HP.out.form HP.out.ar
      have hsz := size_take hin
      have hnsy : nsT x.kids[k] (fun q => (env q).isSome) = true := nsL_kid (by have := HP.out.ns; rw [nsT_eq, if_neg h84] at this; exact this) (List.getElem?_eq_getElem hin)
      have hlty : SizeOf.sizeOf x.kids[k] < SizeOf.sizeOf x := by
        have h1 := List.sizeOf_lt_of_mem (List.getElem_mem hin)
        cases x with
        | mk k1 n1 s1 l1 =>
          have h2 : SizeOf.sizeOf (Nd.mk k1 n1 s1 l1).kids = SizeOf.sizeOf l1 := rfl
          simp at h1 ⊢
          omega
      have hIY := HIH.out x.kids[k] hlty
      have hyk := List.getElem?_eq_getElem hin
      have hxz := sizeT_eq x
      have hext := nArgs_ext s.lib false (x.kids.take k) env ts
      have r1 : (0 : Int) ≤ k := by omega
      have r2 : (k : Int) < x.kids.length := by omega
      have hltk := block_lt_of_cell e0
      have HCY := Lib.hid (fun (W' : World) (hb : Below wr.heap.size wr W') => hIY pb po (XA (fun k => X0 k ∨ (w.heap.size ≤ k ∧ k < W.heap.size)) (.slice Aa k ca)) n1 env (nArgs s.lib false (x.kids.take k) env ts).ts ut1 (bs ++ (nArgs s.lib false (x.kids.take k) env ts).bs) ub1 W' Ay cy (hr.out.ns.below hb) ⟨HP.out.hW, HP.out.lib, HP.out.lfit, e4, hky.1, hky.2.1, hky.2.2, hnsy, by obtain ⟨ex, e, h2⟩ := hext.pre; rw [e, List.length_append]; have := HP.out.tl; omega, by have := hext.bs; have := HP.out.bl; rw [List.length_append]; omega, by have := hr.out.nn; have := HP.out.nl; omega⟩)
      have HYK := Lib.hid hyk
      have HOW := Lib.hid hr.out.own
      have HWS := Lib.hid hr.out.fr.size
      have HOF := Lib.hid (fun (w5 : World) (hf : Fr wr w5 (Ng s pb ut1 ub1)) => hr.out.own5 (by have q := HL0.out; have := HSZ2.out; exact ⟨by omega, by omega, by omega⟩) hf)
      have HUA := Lib.hid (show (Value.slice Aa k ca).ownBlock ≠ some (w.heap.size + 2) from fun e => by have := (own_ty hr.out.own _ e).1; have := HSZ2.out; omega)
      have HNO := Lib.hid (fun (q : Nat) (e : Ng s pb ut1 ub1 q) (h1 : q < W.heap.size) => ng_old HL0.out (ng_sub hr.out.nu hr.out.nb h1 e))
      have hgx := hx9.out.lt
      obtain ⟨i0, hi0, hz0, hz1, hz2⟩ := info_parts info_str
      have hkk : k ≤ 90000 := by
        have h1 := nArgs_len s.lib false env (x.kids.take k) ts
        have h2 : k ≤ sizeTL (x.kids.take k) := by
          have h3 : ∀ l : List Nd, l.length ≤ sizeTL l := fun l => by
            induction l with
            | nil => exact Nat.zero_le _
            | cons z r ihz => rw [sizeTL, List.length_cons]; have := sizeT_eq z; omega
          have h4 := h3 (x.kids.take k)
          rw [List.length_take] at h4
          omega
        have := HP.out.nl
        omega
      clear hnsy hlty hIY hyk hky hext hsz hxz e4
      obtain ⟨ry, hry⟩ : ∃ ry, nE s.lib x.kids[k] env (nArgs s.lib false (x.kids.take k) env ts).ts = ry := ⟨_, rfl⟩
      rw [hry] at HCY
      have HRY := Lib.hid hry
      clear hry
      generalize x.kids[k] = y at *
      have hb11 := below_box wr (Obj.cells #[.int .u8 y.kind, .int .i64 y.num, .string y.name, .slice Ay y.kids.length cy] 53)
      have HX11 := Lib.hid (bx_new wr #[.int .u8 y.kind, .int .i64 y.num, .string y.name, .slice Ay y.kids.length cy] 53)
      have HX91 := Lib.hid (hx9.out.below hb11)
      have HB11 := Lib.hid hb11
      clear hb11
      go_upto_region 18 with fail
      generalize wr.alloc _ = wr1 at HX11 HX91 HB11 ⊢
      clear e0 e1 e2 e3 hltk
      obtain ⟨a0, a1, a2, a3, _⟩ := HX11.out.four
      obtain ⟨⟨y0, y1, y2, y3, y4, y5, y6, y7⟩, f0, f1, f2, f3, f4, f5, f6, f7⟩ := HX91.out.eight
      have hlt11 := HX11.out.lt
      have hlt9 := HX91.out.lt
      have hfld := field0 ry.p.name ry.p.list
      have HCZ := Lib.hid (HCY.out wr1.drew (below_step HB11.out HB11.out.size (belowDrawnP (Below.refl _ wr1))))
      go_region_law (first
        | (refine step_app _ (by rfl) (.tmp 79) (.tmp 85) 58 (by rfl) W.heap.size 9 i0 (.string ⟨#[]⟩) 1 16 Tryd.underlying58 hi0 hz0 hz1 hz2 rfl (by decide) (.slice Aa k ca) k ((nArgs s.lib false (x.kids.take k) env ts).args.map Value.string) (by first | (simp [Act.eval]; done) | (simp [Act.eval, Act.put]; done)) (HOW5.out.alloc _) (some ⟨w5.heap.size, 0, none⟩) 1 1 [.string ry.p.name] (by first | (simp [Act.eval]; done) | (simp [Act.eval, Act.put]; done)) rfl (cells_litC w5 _ _) (fun u hu => by simp at hu; rw [hu]; rfl) (by unfold maxLen; omega) (by omega) (by simp; have := HWS5.out; omega) ?_; intro v' w6 hown' hgrow hat; obtain ⟨A2, d2, rfl, hd2, hqq⟩ := own_formB hown'; clear hqq; have HX96 := Lib.hid ((HX95.out.below (below_box w5 _)).fr (Fr.of_grown hgrow) (fun e => HUA.out e.symm)); have HOW6 := Lib.hid hown'; have HGR6 := Lib.hid hgrow; have HAT6 := Lib.hid hat; clear hown' hgrow hat; obtain ⟨⟨y0, y1, y2, y3, y4, y5, y6, y7⟩, f0, f1, f2, f3, f4, f5, f6, f7⟩ := HX96.out.eight)
        | (go_simp; go_at_call 45; refine HCZ.out.mono ?_; rintro e w5 ⟨rfl, n2, u2, b2, hn2, hs5, hf5, hnu5, hnb5⟩; have HX95 := Lib.hid ((HX91.out.below (belowDrawnP (Below.refl _ wr1))).fr hf5 (fun e => by have := HNO.out _ e (by have := HSZ2.out; omega); omega)); have HS5 := Lib.hid hs5; have HF5 := Lib.hid ((Fr.of_below (below_step HB11.out HB11.out.size (belowDrawnP (Below.refl _ wr1))) (Ng s pb ut1 ub1)).trans hf5 (fun _ _ e => e)); have HNU5 := Lib.hid (And.intro hnu5 (And.intro hnb5 hn2)); have HOW5 := Lib.hid (HOF.out w5 HF5.out); have HWS5 := Lib.hid (show W.heap.size ≤ w5.heap.size from Nat.le_trans HWS.out HF5.out.size); clear hs5 hf5 hnu5 hnb5 hn2; have hlt5 := HX95.out.lt; obtain ⟨⟨y0, y1, y2, y3, y4, y5, y6, y7⟩, f0, f1, f2, f3, f4, f5, f6, f7⟩ := HX95.out.eight; dsimp only)
        | fail)
      all_goals
        have HPS := Lib.hid (OpR.push hr.out HQ.out (by have := HSZ2.out; omega) (.inr ⟨by omega, by have := HSZ2.out; omega⟩) HX1.out HYK.out (show Nr.arg false y _ = ry by unfold Nr.arg; rw [if_neg (by simp)]; exact HRY.out) HS5.out HF5.out (HNU5.out.1.mono (by have := HB11.out.size; exact this)) (HNU5.out.2.1.mono (by have := HB11.out.size; exact this)) HNU5.out.2.2 HOW6.out HGR6.out HAT6.out 5 (.slice A2 (k + 1) d2))
        have HBX := Lib.hid (HX96.out.set 5 (.slice A2 (k + 1) d2))
        go_wp2_with fail
        exact ⟨⟨k + 1, n2, u2, b2, A2, d2, by omega, by go_num, HPS, HBX⟩, by simp [intOf]; omega⟩
    · obtain rfl : k = x.kids.length := by omega
      have hal := nArgs_len s.lib false env x.kids ts
      have hext := nArgs_ext s.lib false x.kids env ts
      have hxz := sizeT_eq x
      have hns := hr.out.ns
      have how := hr.out.own
      have hnn := hr.out.nn
      rw [List.take_length] at hns how hnn
      have HX4r := Lib.hid (HX42.out.fr hr.out.fr (fun e => e.elim (fun e => by have := ng_old HL0.out e; omega) (fun e => by omega)))
      have HX6r := Lib.hid (HX62.out.fr hr.out.fr (fun e => e.elim (fun e => by have := ng_old HL0.out e; omega) (fun e => by omega)))
      have hns2 : Ns s pb po (fun k => X0 k ∨ (w.heap.size ≤ k ∧ k < W.heap.size)) n1 env (nArgs s.lib false x.kids env ts).ts ut1 (bs ++ (nArgs s.lib false x.kids env ts).bs) ub1 wr := hns.swap (m := fun _ => False) (Fr.refl _ _) (fun _ _ e => e.elim) (fun _ _ e => e.elim) (fun k hk e => .inl e) (fun k e => by have := HX1.out k e; have := hr.out.fr.size; omega)
      obtain ⟨pr, hpr⟩ : ∃ pr, nArgs s.lib false x.kids env ts = pr := ⟨_, rfl⟩
      rw [hpr] at hal hext hns how hns2 HR
      have hss : StrsX wr (Xs (fun k => X0 k ∨ (w.heap.size ≤ k ∧ k < W.heap.size)) s.O s.M pb ut1 ub1) Aa pr.args := by
        have hq := HL0.out
        have hz := HSZ2.out
        rw [← hal] at how
        obtain ⟨A3, c3, e, h3⟩ := strsX_of_own (X := Xs (fun k => X0 k ∨ (w.heap.size ≤ k ∧ k < W.heap.size)) s.O s.M pb ut1 ub1) how (fun g e e2 => by
          have h1 := (own_ty how g e).1
          rcases e2 with e2 | e2 | e2 | e2 | e2 | e2
          · have := HX1.out g e2; omega
          · omega
          · omega
          · omega
          · obtain ⟨u5, ht1, _⟩ := hns.t
            exact own_new how ht1.own (by decide) g e e2
          · obtain ⟨cs1, ho1, _⟩ := hns.own
            exact own_new how ho1 (by decide) g e e2)
        cases e
        exact h3
      have HBI := Lib.hid (fun (l : Bool) => bind_any HP.out.hW hns2 (by obtain ⟨ex, e, h2⟩ := hext.pre; rw [e, List.length_append]; have := HP.out.tl; omega) (by have := hext.bs; have := HP.out.bl; rw [List.length_append]; omega) ⟨#[]⟩ false x.kind x.num ⟨#[]⟩ Aa ca pr.args hss l)
      rw [hal] at HBI
      have HFW := Lib.hid (show Fr w wr (Ng s pb ut ub) from (Fr.of_below HB2.out (Ng s pb ut ub)).trans hr.out.fr (fun q hq e => e.elim id (fun e => by omega)))
      have HNN := Lib.hid (And.intro hr.out.nu (And.intro hr.out.nb (show n1 ≤ n + sizeT x by omega)))
      have HWR := Lib.hid (show W.heap.size ≤ wr.heap.size from hr.out.fr.size)
      have HX9r := Lib.hid hx9.out
      have HLK := Lib.hid (listK_eq x.kind)
      clear hr hx9 hal hext hxz hns how hnn hns2 hss hpr hin
      obtain ⟨a0, a1, a2, a3, _⟩ := HX4r.out.four
      obtain ⟨⟨y0, y1, y2, y3, y4, y5, y6, y7⟩, _⟩ := HX9r.out.eight
      have hlt4 := HX4r.out.lt
      have hlt9 := HX9r.out.lt
      obtain ⟨c86, hc86⟩ : ∃ c, ((x.kind : Int) == 86) = c := ⟨_, rfl⟩
      obtain ⟨c87, hc87⟩ : ∃ c, ((x.kind : Int) == 87) = c := ⟨_, rfl⟩
      obtain ⟨c89, hc89⟩ : ∃ c, ((x.kind : Int) == 89) = c := ⟨_, rfl⟩
      rw [hc86, hc87, hc89] at HLK
      cases c86 <;> cases c87 <;> cases c89
      rotate_left 7
      all_goals
        go_upto_region 21 with fail
        go_wp2_with fail
        refine (HBI.out _).mono ?_
        rintro e w8 ⟨rfl, u2, b2, hs8, hf8, hnu8, hnb8⟩
        have HX68 := Lib.hid (HX6r.out.fr hf8 (fun e => by have := ng_old HL0.out (ng_sub HNN.out.1 HNN.out.2.1 (by have := HSZ2.out; omega) (.inr e)); omega))
        have HD := Lib.hid (nx_fin4 (X0 := X0) HL0.out (by have := HSZ2.out; omega) (fun k e => .inl e) (.inr ⟨by omega, by have := HSZ2.out; omega⟩) hs8 (HFW.out.trans hf8 (fun k hk e => ng_sub HNN.out.1 HNN.out.2.1 (by have := HSZ2.out; omega) (.inr e))) (HNN.out.1.trans hnu8 HWR.out) (HNN.out.2.1.trans hnb8 HWR.out) HX68.out)
        clear hs8 hf8 hnu8 hnb8 a0 a1 a2 a3 y0 y1 y2 y3 y4 y5 y6 y7 hlt4 hlt9
        obtain ⟨y0, y1, f0, f1⟩ := HX68.out.two
        have hlt6 := HX68.out.lt
        clear HX68 HX6r HX4r HX9r HFW
        go_wp2_with fail
        generalize World.setCell _ _ _ = WF at HD ⊢
        obtain ⟨g0, g1, _⟩ := HD.out.2.two
        exact bodyPost_ret (v := .agg #[.string (tmpN pr.ts.length), .bool _]) (by simp [results, Tryd.results45, go_sem, g0, g1]; rfl) rfl (by rw [HR.out, HLK.out]; exact ⟨rfl, n1, u2, b2, HNN.out.2.2, by show Ns s pb po X0 n1 env (pr.ts ++ [_]) u2 (bs ++ (pr.bs ++ [_])) b2 WF; rw [← List.append_assoc]; exact HD.out.1.1, HD.out.1.2⟩)

end Go.Proofs.YtcoeakdpcigogaaDoor

/-
  The reference's Eval: operations with two operands.
-/
import Derived.Test.YtoankdaddgjnlaaRevEv1
namespace Go.Proofs.Ytoankdaddgjnlaa
open Go.ChangeShapes Go.WideShapes Go.ChangeAt Go.RowKit Go.Sort

theorem info_rtree : (Try.prog.info? 34).map (fun i => (i.zero, i.size, i.bytes)) = some (some (.agg #[.int .i64 0, .slice none 0 0, .bool false, .int .i64 0, .slice none 0 0, .slice none 0 0]), 6, 96) := by kernel_rfl
theorem ev_two {ap : Int → Int → Int → Int × Int} {lib : List Fn1} {d act : Nat} {env : ByteArray → Option Vl} {x y z : Nd} {f : Nat} (h0 : f ≠ 0) (hk : x.kind = 82 ∨ x.kind = 87) (hx : x.kids = [y, z]) :
    (∀ k, ev ap lib d act env y (f - 1) = .err k → ev ap lib (d + 1) act env x f = .err k) ∧
    (∀ v g c k, ev ap lib d act env y (f - 1) = .ok v g c → ev ap lib d act env z g = .err k → ev ap lib (d + 1) act env x f = .err k) ∧
    (∀ v g c u g2 c2, ev ap lib d act env y (f - 1) = .ok v g c → ev ap lib d act env z g = .ok u g2 c2 → ∃ c', ev ap lib (d + 1) act env x f = (opO ap x [v, u] g2).pre c') := by
  rw [ev, if_neg h0, if_neg (by omega), if_neg (by omega), if_neg (by omega), if_neg (by omega), hx]
  unfold evL evL
  refine ⟨?_, ?_, ?_⟩
  · intro k hk2
    rw [hk2]; rfl
  · intro v g c k hv hu
    rw [hv]
    dsimp only
    rw [hu]; rfl
  · intro v g c u g2 c2 hv hu
    rw [hv]
    dsimp only
    rw [hu]
    refine ⟨c ++ (c2 ++ []), ?_⟩
    show OutL.bind (.ok [v, u] g2 (c ++ (c2 ++ []))) _ = _
    unfold OutL.bind
    dsimp only
    rw [if_neg (by omega)]
/-- A kid of a node, as it lies in memory. -/
def KidAt (w : World) (Ak : Option Addr) (k : Nat) (z : Nd) (kb ko : Nat) (Az : Option Addr) (cz : Nat) : Prop := Ak = some ⟨kb, ko, none⟩ ∧ w.cell? ⟨kb, ko + k * 4, none⟩ = some (.int .u8 z.kind) ∧ w.cell? ⟨kb, ko + k * 4 + 1, none⟩ = some (.int .i64 z.num) ∧ w.cell? ⟨kb, ko + k * 4 + 2, none⟩ = some (.string z.name) ∧ w.cell? ⟨kb, ko + k * 4 + 3, none⟩ = some (.slice Az z.kids.length cz) ∧ NdsAt w Az z.kids
theorem kid_at {w : World} {Ak : Option Addr} {l : List Nd} (h : NdsAt w Ak l) {k : Nat} {z : Nd} (hz : l[k]? = some z) : ∃ kb ko Az cz, KidAt w Ak k z kb ko Az cz := by
  obtain ⟨hk, rfl⟩ := List.getElem?_eq_some_iff.1 hz
  obtain ⟨kb, ko, Az, cz, e, _, c0, c1, c2, c3, hn⟩ := h.kid hk
  exact ⟨kb, ko, Az, cz, e, c0, c1, c2, c3, hn⟩
theorem num_82 {x : Nd} (h : formT x = true) (hk : x.kind = 82) : ∃ kn : Nat, x.num = kn ∧ 8 ≤ kn ∧ kn ≤ 23 := by
  have hb := (formT_kids h).1
  unfold formB at hb
  rw [if_neg (by omega), if_neg (by omega), if_pos hk] at hb
  simp at hb
  exact ⟨x.num.toNat, by omega, by omega, by omega⟩
/-- Three cells of one block stored, then six of another one. -/
theorem set36g {B b r : Nat} {w0 w : World} {z0 z1 z2 z3 z4 z5 : Value} (h : Bx w r #[z0, z1, z2, z3, z4, z5]) (hne : r ≠ b) (hb : Below B w0 w) (hB : B ≤ b) (hB2 : B ≤ r) (a0 a1 a2 v0 v1 v2 v3 v4 v5 : Value) :
    Bx (((((((((w.setCell ⟨b, 0, none⟩ a0).setCell ⟨b, 1, none⟩ a1).setCell ⟨b, 2, none⟩ a2).setCell ⟨r, 0, none⟩ v0).setCell ⟨r, 1, none⟩ v1).setCell ⟨r, 2, none⟩ v2).setCell ⟨r, 3, none⟩ v3).setCell ⟨r, 4, none⟩ v4).setCell ⟨r, 5, none⟩ v5) r #[v0, v1, v2, v3, v4, v5] ∧
    Below B w0 (((((((((w.setCell ⟨b, 0, none⟩ a0).setCell ⟨b, 1, none⟩ a1).setCell ⟨b, 2, none⟩ a2).setCell ⟨r, 0, none⟩ v0).setCell ⟨r, 1, none⟩ v1).setCell ⟨r, 2, none⟩ v2).setCell ⟨r, 3, none⟩ v3).setCell ⟨r, 4, none⟩ v4).setCell ⟨r, 5, none⟩ v5) ∧
    Fr w (((((((((w.setCell ⟨b, 0, none⟩ a0).setCell ⟨b, 1, none⟩ a1).setCell ⟨b, 2, none⟩ a2).setCell ⟨r, 0, none⟩ v0).setCell ⟨r, 1, none⟩ v1).setCell ⟨r, 2, none⟩ v2).setCell ⟨r, 3, none⟩ v3).setCell ⟨r, 4, none⟩ v4).setCell ⟨r, 5, none⟩ v5) (fun k => k = b ∨ k = r) :=
  ⟨(h.fr (Fr.set3 w b a0 a1 a2) hne).set6 v0 v1 v2 v3 v4 v5, belowR6 (belowR3 hb hB a0 a1 a2) hB2 v0 v1 v2 v3 v4 v5, ((Fr.set3 w b a0 a1 a2).mono fun _ _ e => .inl e).trans (Fr.set6 _ r v0 v1 v2 v3 v4 v5) fun _ _ e => .inr e⟩
/-- When the calls of the two operands are joined. -/
def Cut29 (W14 wc : World) (b : Nat) (c0 c1 c2 c3 c4 c5 : Value) (A : Option Addr) (m : Nat) : Prop :=
  Bx wc b #[c0, c1, c2, c3, c4, c5] ∧ Fr W14 wc (fun k => k = b) ∧ ∀ Y : Nat → Prop, (∀ k, Y k → k < W14.heap.size) → CxX wc Y A m
theorem cut29 {W14 w16 : World} {b : Nat} {c0 c1 c2 c3 c4 c5 : Value} (hQ : Bx W14 b #[c0, c1, c2, c3, c4, c5]) (q : Below W14.heap.size W14 w16) {A : Option Addr} {m : Nat} {cs : List Value} (hc : ∀ (j : Nat) (u : Value), cs[j]? = some u → ∃ b o, A = some ⟨b, o, none⟩ ∧ W14.heap.size ≤ b ∧ w16.cell? ⟨b, o + j, none⟩ = some u) (hl : cs.length = m * 6) (ho : ∀ u ∈ cs, u.oneCell' = true) (v : Value) : Cut29 W14 (w16.setCell ⟨b, 4, none⟩ v) b c0 c1 c2 c3 v c5 A m := by
  have hb := hQ.lt
  refine ⟨(hQ.below q).set 4 v, (Fr.of_below q (fun k => k = b)).trans (Fr.of_set w16 ⟨b, 4, none⟩ v) (fun k _ e => e), fun Y hY => ⟨cs, hl, fun j u hu => ?_, ho⟩⟩
  obtain ⟨b', o, e, hge, hcell⟩ := hc j u hu
  exact ⟨b', o, e, fun hy => by have := hY b' hy; omega, (Fr.of_set w16 ⟨b, 4, none⟩ v).cell hcell (by show ¬ b' = b; omega)⟩
set_option maxRecDepth 100000 in
set_option maxHeartbeats 4000000 in
theorem reval_82 {X : Nat → Prop} {A : Option Addr} {cap : Nat} {lib : List Fn1} {d : Nat} {x : Nd} {Ak : Option Addr} (ck : Nat) {vs : List (ByteArray × Vl)} {Av : Option Addr} (cv : Nat) {F : Int} {act : Nat} {w : World} (h : RPre X A lib x Ak vs Av F act w) (hF : 0 < F) (ih : REvalC A cap lib d) (hd : F.toNat ≤ d + 1) (hk : x.kind = 82) :
    Calls Try.prog 25 #[.slice A lib.length cap, .slice Av vs.length cv, .agg #[.int .u8 x.kind, .int .i64 x.num, .string x.name, .slice Ak x.kids.length ck], .int .i64 F, .int .i64 act] w (RetOu (ev apR lib (d + 1) act (envL vs) x F.toNat) F.toNat X w) := by
  have H2 := Lib.hid (two_bx w #[.int .u8 x.kind, .int .i64 x.num, .string x.name, .slice Ak x.kids.length ck] #[.bool false, .int .i64 0, .slice none 0 0, .int .i64 0, .slice none 0 0, .int .i64 0] 41 82)
  have hlen : x.kids.length = 2 := one_kid h.form (by rw [hk]; rfl)
  obtain ⟨y, z, hy⟩ : ∃ y z, x.kids = [y, z] := two hlen
  have hEV := ev_two (ap := apR) (lib := lib) (d := d) (act := act) (env := envL vs) (show F.toNat ≠ 0 by omega) (.inl hk) hy
  have HE1 := Lib.hid hEV.1
  have HE2 := Lib.hid hEV.2.1
  have HE3 := Lib.hid hEV.2.2
  have hfn : firstN x = y := by
    unfold firstN kidN
    rw [if_neg (by rw [hy]; rintro (e | e); cases e; omega), hy]; rfl
  have hkz := fit_kid (k := 1) (y := z) (by rw [hy]; rfl) h.fit h.form h.ar
  obtain ⟨kb, ko, Az, cz, hka⟩ := kid_at (k := 1) (z := z) h.kids (by rw [hy]; rfl)
  have HKA := Lib.hid hka
  have hAk := hka.1
  have HFS := Lib.hid (fun (W : World) (hb : Below w.heap.size w W) => rfirst_any x Ak ck W (h.kids.mono hb))
  rw [hfn] at HFS
  have hkid := fit_kid (k := 0) (y := y) (by rw [hy]; rfl) h.fit h.form h.ar
  have HR : Hid (∀ (W : World) (Ay : Option Addr) (cy : Nat), Below w.heap.size w W → w.heap.size + 1 < W.heap.size → NdsAt W Ay y.kids → Calls Try.prog 25 #[.slice A lib.length cap, .slice Av vs.length cv, .agg #[.int .u8 y.kind, .int .i64 y.num, .string y.name, .slice Ay y.kids.length cy], .int .i64 (F - 1), .int .i64 act] W (RetOu (ev apR lib d act (envL vs) y (F.toNat - 1)) (F.toNat - 1) (fun k => X k ∨ k = w.heap.size ∨ k = w.heap.size + 1) W)) := Lib.hid (fun W Ay cy hb hlt hn => by
    have := ih (fun k => X k ∨ k = w.heap.size ∨ k = w.heap.size + 1) y Ay cy vs Av cv (F - 1) act W ⟨h.lb.mono hb, h.vars.below hb (fun k hk e => by rcases e with e | e | e; exact e; omega; omega), hn, hkid.1, hkid.2.1, hkid.2.2.1, by have := h.size; have := hkid.2.2.2; omega, by have := h.fuel; omega, h.act, fun k e => by rcases e with e | e | e; have := h.old k e; have := hb.size; omega; omega; omega, h.cl⟩ (by omega)
    rw [show (F - 1).toNat = F.toNat - 1 by omega] at this
    exact this)
  obtain ⟨o, hoo⟩ : ∃ o, ev apR lib d act (envL vs) y (F.toNat - 1) = o := ⟨_, rfl⟩
  rw [hoo] at HR
  have HOO := Lib.hid hoo
  have HX := Lib.hid h.old
  have hFu := h.fuel
  have hF0 : ¬ F ≤ 0 := by omega
  have hkk := hk
  have HRZ : Hid (∀ (W : World) (X2 : Nat → Prop) (g : Nat), Below w.heap.size w W → (∀ k, k < w.heap.size → X2 k → X k) → (∀ k, X2 k → k < W.heap.size) → g ≤ F.toNat - 1 → Calls Try.prog 25 #[.slice A lib.length cap, .slice Av vs.length cv, .agg #[.int .u8 z.kind, .int .i64 z.num, .string z.name, .slice Az z.kids.length cz], .int .i64 g, .int .i64 act] W (RetOu (ev apR lib d act (envL vs) z g) g X2 W)) := Lib.hid (fun W X2 g hb hX hX2 hg => by
    have := ih X2 z Az cz vs Av cv g act W ⟨h.lb.mono hb, h.vars.below hb hX, HKA.out.2.2.2.2.2.mono hb, hkz.1, hkz.2.1, hkz.2.2.1, by have := h.size; have := hkz.2.2.2; omega, by have := h.fuel; omega, h.act, hX2, h.cl⟩ (by omega)
    rw [show ((g : Int)).toNat = g by omega] at this
    exact this)
  obtain ⟨i0, hi0, hz0, hz1, hz2⟩ := info_parts info_rtree
  have HI := Lib.hid (And.intro hi0 (And.intro hz0 (And.intro hz1 hz2)))
  clear hi0 hz0 hz1 hz2
  have hl1 : (1 : Int) < x.kids.length := by omega
  have hl2 : 1 < x.kids.length := by omega
  subst hAk
  have HNU := Lib.hid (num_82 h.form)
  clear h hEV hfn hkid hlen hy hoo hkz hka
  obtain ⟨kn, hkn, h8, h23⟩ := HNU.out hk
  have HOP : Hid (∀ (u : Vl) (g : Nat) (t : Vl), opO apR x [t, u] g = if (apR kn t.n u.n).2 = 0 then .ok ⟨false, (apR kn t.n u.n).1, []⟩ g [] else .err (apR kn t.n u.n).2) := Lib.hid (fun u g t => by unfold opO; rw [hk, hkn]; rfl)
  rw [hk, hkn] at H2 HFS ⊢
  clear hk hkk HNU hkn
  go_enter Try.func25, Try.ntmps25
  go_upto_region 1 with fail
  generalize (w.alloc _).alloc _ = W at H2 ⊢
  obtain ⟨x0, x1, x2, x3, _⟩ := H2.out.1.four
  go_wp2_with fail
  refine (HFS.out W H2.out.2.2).mono ?_
  rintro e w7 ⟨hb7, Ay, cy, rfl, hn7⟩
  have HB7 := Lib.hid (below_step H2.out.2.2 H2.out.2.2.size hb7)
  have hlt7 : w.heap.size + 1 < w7.heap.size := by have := H2.out.2.1.lt; have := hb7.size; omega
  have HN7 := Lib.hid hn7
  have HA7 := Lib.hid (H2.out.1.below hb7)
  have HC7 := Lib.hid (H2.out.2.1.below hb7)
  clear hb7 hn7 x0 x1 x2 x3
  go_wp2_with fail
  refine (HR.out w7 Ay cy HB7.out hlt7 HN7.out).mono ?_
  intro e w8 ho
  cases o with
  | err k =>
    obtain ⟨hb8, hk8, bl, n, A8, m8, c8, G8, Ac8, mc8, cc8, rfl, hx8, hm8⟩ := ho
    have HB8 := Lib.hid (below_step HB7.out HB7.out.size hb8)
    have hb9 := below_box w8 (Obj.cells #[.bool bl, .int .i64 n, .slice A8 m8 c8, .int .i64 G8, .slice Ac8 mc8 cc8, .int .i64 k] 82)
    have HO9 := Lib.hid (bx_new w8 #[.bool bl, .int .i64 n, .slice A8 m8 c8, .int .i64 G8, .slice Ac8 mc8 cc8, .int .i64 k] 82)
    have HB9 := Lib.hid (below_step HB8.out HB8.out.size hb9)
    have HA9 := Lib.hid ((HA7.out.below hb8).below hb9)
    have HC9 := Lib.hid ((HC7.out.below hb8).below hb9)
    have HX8 := Lib.hid hx8
    have HL9 := Lib.hid hb9
    have hlt8 : w.heap.size + 1 < w8.heap.size := by have := hb8.size; omega
    have HXX := Lib.hid (hx8.le (Le.below hb9 (fun _ _ e => e)))
    clear hb8 hb9 hx8 HA7 HC7 HB7 HN7
    go_upto_region 12 with fail
    generalize w8.alloc _ = W9 at HO9 HB9 HA9 HC9 HL9 HXX ⊢
    obtain ⟨a0, a1, a2, a3, _⟩ := HA9.out.four
    obtain ⟨⟨o0, o1, o2, o3, o4, o5⟩, p0, p1, p2, p3, p4, p5⟩ := HO9.out.six
    obtain ⟨⟨y0, y1, y2, y3, y4, y5⟩, f0, f1, f2, f3, f4, f5⟩ := HC9.out.six
    have hne : (k != 0) = true := bne_iff_ne.2 hk8
    have HER := Lib.hid (HE1.out k HOO.out)
    have HK8 := Lib.hid hk8
    clear hk8
    go_wp2_with fail
    have HF := Lib.hid (And.intro (HC9.out.set6 (.bool bl) (.int .i64 n) (.slice A8 m8 c8) (.int .i64 G8) (.slice Ac8 mc8 cc8) (.int .i64 k)) (belowR6 HB9.out (Nat.le_add_right w.heap.size 1) (.bool bl) (.int .i64 n) (.slice A8 m8 c8) (.int .i64 G8) (.slice Ac8 mc8 cc8) (.int .i64 k)))
    have HLE := Lib.hid (fun (Xa Xb : Nat → Prop) (h1 : ∀ k, k = w.heap.size + 1 → Xa k) (h2 : ∀ k, Xb k → Xa k) => Le.of_fr (X := Xa) (X' := Xb) (Fr.set6 W9 (w.heap.size + 1) (.bool bl) (.int .i64 n) (.slice A8 m8 c8) (.int .i64 G8) (.slice Ac8 mc8 cc8) (.int .i64 k)) (fun k _ e => h1 k e) (fun k _ e => h2 k e))
    generalize World.setCell _ _ _ = WF at HF HLE ⊢
    obtain ⟨⟨g0, g1, g2, g3, g4, g5⟩, _⟩ := HF.out.1.six
    exact bodyPost_ret (v := .agg #[.bool bl, .int .i64 n, .slice A8 m8 c8, .int .i64 G8, .slice Ac8 mc8 cc8, .int .i64 k]) (by simp [results, Try.results25, go_sem, g0, g1, g2, g3, g4, g5]) rfl (by rw [HER.out]; exact ⟨HF.out.2, HK8.out, bl, n, A8, m8, c8, G8, Ac8, mc8, cc8, rfl, HXX.out.le (HLE.out (fun k => X k ∨ k = w.heap.size ∨ k = w.heap.size + 1) X (fun k e => .inr (.inr e)) (fun k e => .inl e)), by omega⟩)
  | ok v f t =>
    obtain ⟨hb8, A8, c8, Ac8, mc8, cc8, rfl, hx8, hm8, hi8, hc8, hv8⟩ := ho
    have HB8 := Lib.hid (below_step HB7.out HB7.out.size hb8)
    have hb9 := below_box w8 (Obj.cells #[.bool v.list, .int .i64 v.n, .slice A8 v.l.length c8, .int .i64 f, .slice Ac8 mc8 cc8, .int .i64 0] 82)
    have HO9 := Lib.hid (bx_new w8 #[.bool v.list, .int .i64 v.n, .slice A8 v.l.length c8, .int .i64 f, .slice Ac8 mc8 cc8, .int .i64 0] 82)
    have HB9 := Lib.hid (below_step HB8.out HB8.out.size hb9)
    have HA9 := Lib.hid ((HA7.out.below hb8).below hb9)
    have HC9 := Lib.hid ((HC7.out.below hb8).below hb9)
    have HX8 := Lib.hid hx8
    have HL9 := Lib.hid hb9
    have hlt8 : w.heap.size + 1 < w8.heap.size := by have := hb8.size; omega
    have HXX := Lib.hid (hx8.le (Le.below hb9 (fun _ _ e => e)))
    clear hb8 hb9 hx8 HA7 HC7 HB7 HN7
    go_upto_region 12 with fail
    generalize w8.alloc _ = W9 at HO9 HB9 HA9 HC9 HL9 HXX ⊢
    obtain ⟨a0, a1, a2, a3, _⟩ := HA9.out.four
    obtain ⟨⟨o0, o1, o2, o3, o4, o5⟩, p0, p1, p2, p3, p4, p5⟩ := HO9.out.six
    obtain ⟨⟨y0, y1, y2, y3, y4, y5⟩, f0, f1, f2, f3, f4, f5⟩ := HC9.out.six
    have HI8 := Lib.hid hi8
    clear hi8
    obtain ⟨_, hk0, hk1, hk2, hk3, _⟩ := HKA.out
    simp only [Nat.one_mul] at hk0 hk1 hk2 hk3
    replace hk0 := below_cell HB9.out hk0
    replace hk1 := below_cell HB9.out hk1
    replace hk2 := below_cell HB9.out hk2
    replace hk3 := below_cell HB9.out hk3
    have hb12 := below_box W9 (Obj.cells #[.int .u8 z.kind, .int .i64 z.num, .string z.name, .slice Az z.kids.length cz] 41)
    have HZ12 := Lib.hid (bx_new W9 #[.int .u8 z.kind, .int .i64 z.num, .string z.name, .slice Az z.kids.length cz] 41)
    have HB12 := Lib.hid (below_step HB9.out HB9.out.size hb12)
    have HA12 := Lib.hid (HA9.out.below hb12)
    have HC12 := Lib.hid (HC9.out.below hb12)
    have HO12 := Lib.hid (HO9.out.below hb12)
    have HL12 := Lib.hid (below_step HL9.out HL9.out.size hb12)
    have hlt9 := HO9.out.lt
    clear hb12
    go_upto_region 23 with fail
    generalize W9.alloc _ = W12 at HZ12 HB12 HA12 HC12 HO12 HL12 ⊢
    clear a0 a1 a2 a3 o0 o1 o2 o3 o4 o5 p0 p1 p2 p3 p4 p5 y0 y1 y2 y3 y4 y5 f0 f1 f2 f3 f4 f5 hk0 hk1 hk2 hk3
    obtain ⟨a0, a1, a2, a3, _⟩ := HA12.out.four
    obtain ⟨⟨o0, o1, o2, o3, o4, o5⟩, p0, p1, p2, p3, p4, p5⟩ := HO12.out.six
    obtain ⟨z0, z1, z2, z3, e0, e1, e2, e3⟩ := HZ12.out.four
    have HRB := Lib.hid (HRZ.out W12 (fun k => X k ∨ k = w.heap.size ∨ k = w.heap.size + 1 ∨ k = w8.heap.size ∨ k = W9.heap.size) f HB12.out (fun k hk e => by rcases e with e | e | e | e | e; exact e; all_goals omega) (fun k e => by have hsz := HB12.out.size; have hzl := HZ12.out.lt; rcases e with e | e | e | e | e; (have := HX.out k e; omega); all_goals omega) (by omega))
    obtain ⟨ou, hou⟩ : ∃ ou, ev apR lib d act (envL vs) z f = ou := ⟨_, rfl⟩
    rw [hou] at HRB
    have HOO2 := Lib.hid hou
    clear hou
    go_wp2_with fail
    refine HRB.out.mono ?_
    intro e w13 hb
    have hb13 := hb.1
    have HHB := Lib.hid hb
    obtain ⟨bl, n, A13, m13, c13, G13, Ac13, mc13, cc13, q13, rfl, hx13, hm13, hq13⟩ := retou_six hb
    have HQQ := Lib.hid hq13
    have HX13 := Lib.hid hx13
    have HL13 := Lib.hid (below_step HL12.out HL12.out.size hb13)
    have HB13 := Lib.hid (below_step HB12.out HB12.out.size hb13)
    have HA13 := Lib.hid (HA12.out.below hb13)
    have HC13 := Lib.hid (HC12.out.below hb13)
    have HO13 := Lib.hid (HO12.out.below hb13)
    have hlt13 : W9.heap.size < w13.heap.size := by have := HZ12.out.lt; have := hb13.size; omega
    have hb14 := below_box w13 (Obj.cells #[.bool bl, .int .i64 n, .slice A13 m13 c13, .int .i64 G13, .slice Ac13 mc13 cc13, .int .i64 q13] 82)
    have HQ14 := Lib.hid (bx_new w13 #[.bool bl, .int .i64 n, .slice A13 m13 c13, .int .i64 G13, .slice Ac13 mc13 cc13, .int .i64 q13] 82)
    have HL14 := Lib.hid (below_step HL13.out HL13.out.size hb14)
    have HM14 := Lib.hid hb14
    have HB14 := Lib.hid (below_step HB13.out HB13.out.size hb14)
    have HA14 := Lib.hid (HA13.out.below hb14)
    have HC14 := Lib.hid (HC13.out.below hb14)
    have HO14 := Lib.hid (HO13.out.below hb14)
    clear hb13 hb14 a0 a1 a2 a3 o0 o1 o2 o3 o4 o5 p0 p1 p2 p3 p4 p5 z0 z1 z2 z3 e0 e1 e2 e3
    go_upto_region 29 with fail
    generalize w13.alloc _ = W14 at HQ14 HL14 HM14 HB14 HA14 HC14 HO14 ⊢
    obtain ⟨a0, a1, a2, a3, _⟩ := HA14.out.four
    obtain ⟨⟨o0, o1, o2, o3, o4, o5⟩, p0, p1, p2, p3, p4, p5⟩ := HO14.out.six
    obtain ⟨⟨b0, b1, b2, b3, b4, b5⟩, r0, r1, r2, r3, r4, r5⟩ := HQ14.out.six
    obtain ⟨csA, hlA, hcA, hoA⟩ := HX8.out.cells
    obtain ⟨csB, hlB, hcB, hoB⟩ := HX13.out.cells
    have HBE := Lib.hid (belowDrawnP (below_box W14 (Obj.cells #[] 34)))
    have HE := Lib.hid (show (W14.alloc (Obj.cells #[] 34)).drew.ownsRow W14.heap.size 34 6 (.slice (some ⟨W14.heap.size, 0, none⟩) 0 0) 0 [] from own_emptyP W14)
    have HCA := Lib.hid (hcA.mono (below_step HL14.out HL14.out.size HBE.out))
    have HCB := Lib.hid (hcB.mono HM14.out)
    have HOA := Lib.hid (And.intro hoA hoB)
    clear hcA hcB hoA hoB
    have hlo := HO14.out.lt
    have hlq := HQ14.out.lt
    have u4 := below_cell (below_box W14 (Obj.cells #[] 34)) o4
    have v4 := below_cell (below_box W14 (Obj.cells #[] 34)) b4
    go_cut [14] (fun p wc => p = .pointer (some ⟨w13.heap.size, 0, none⟩) ∧ ∃ A16 c16, Hid (Cut29 W14 wc w13.heap.size (.bool bl) (.int .i64 n) (.slice A13 m13 c13) (.int .i64 G13) (.slice A16 (mc8 + mc13) c16) (.int .i64 q13) A16 (mc8 + mc13)))
    case first =>
      go_region_law (first
        | (refine step_app _ (by rfl) (.tmp 113) (.tmp 115) 32 (by rfl) W14.heap.size 34 i0 (.agg #[.int .i64 0, .slice none 0 0, .bool false, .int .i64 0, .slice none 0 0, .slice none 0 0]) 6 96 Try.underlying32 HI.out.1 HI.out.2.1 HI.out.2.2.1 HI.out.2.2.2 rfl (by decide) (.slice (some ⟨W14.heap.size, 0, none⟩) 0 0) 0 [] (by simp [Act.eval]) HE.out Ac8 mc8 cc8 csA (by simp [Act.eval]) hlA HCA.out HOA.out.1 (by unfold maxLen; omega) (by omega) HBE.out.size ?_; intro v15 w15 hown15 hgrow15 _; have q15 := Lib.hid (HBE.out.grown hgrow15 HBE.out.size (fun k hk => by cases hk; exact Nat.le_refl _)); rw [Nat.zero_add, List.nil_append] at hown15; have HO15 := Lib.hid hown15; obtain ⟨A15, c15, rfl, _, _⟩ := cells_of_own hown15 hlA; have s4 := below_cell q15.out b4; have t4 := below_cell q15.out o4; clear hown15 hgrow15)
        | (refine step_app _ (by rfl) (.tmp 116) (.tmp 118) 32 (by rfl) W14.heap.size 34 i0 (.agg #[.int .i64 0, .slice none 0 0, .bool false, .int .i64 0, .slice none 0 0, .slice none 0 0]) 6 96 Try.underlying32 HI.out.1 HI.out.2.1 HI.out.2.2.1 HI.out.2.2.2 rfl (by decide) (.slice A15 mc8 c15) mc8 csA (by simp [Act.eval]) HO15.out Ac13 mc13 cc13 csB (by simp [Act.eval]) hlB (HCB.out.mono q15.out) HOA.out.2 (by unfold maxLen; omega) (by omega) q15.out.size ?_; intro v16 w16 hown16 hgrow16 _; have q16 := Lib.hid (q15.out.grown hgrow16 q15.out.size (fun k hk => own_block_geB HO15.out k hk)); have HO16 := Lib.hid hown16; obtain ⟨A16, c16, rfl, _, hc16⟩ := cells_of_own hown16 (by rw [List.length_append, hlA, hlB]; omega); have HC16 := Lib.hid hc16; obtain ⟨⟨n0, n1, n2, n3, n4, n5⟩, l0, l1, l2, l3, l4, l5⟩ := (HQ14.out.below q16.out).six; clear hown16 hgrow16 hc16)
        | fail)
      all_goals
        go_wp2_with fail
        go_meet
        exact ⟨rfl, A16, c16, Lib.hid (cut29 HQ14.out q16.out HC16.out (by rw [List.length_append, hlA, hlB]; omega) (fun u hu => (List.mem_append.1 hu).elim (HOA.out.1 u) (HOA.out.2 u)) _)⟩
    case rest =>
      obtain ⟨rfl, A16, c16, hcut⟩ := hcut
      have HQ := Lib.hid hcut.out.1
      have HFC := Lib.hid hcut.out.2.1
      have HCX := Lib.hid hcut.out.2.2
      clear hcut HE HBE HCA HCB HOA u4 v4 hlA hlB
      clear a0 a1 a2 a3 o0 o1 o2 o3 o4 o5 p0 p1 p2 p3 p4 p5 b0 b1 b2 b3 b4 b5 r0 r1 r2 r3 r4 r5
      have HA := Lib.hid (HA14.out.fr HFC.out (by omega))
      have HC := Lib.hid (HC14.out.fr HFC.out (by omega))
      have HO := Lib.hid (HO14.out.fr HFC.out (by omega))
      have HB := Lib.hid (HFC.out.below HB14.out (fun k e => by omega))
      obtain ⟨a0, a1, a2, a3, _⟩ := HA.out.four
      obtain ⟨⟨o0, o1, o2, o3, o4, o5⟩, p0, p1, p2, p3, p4, p5⟩ := HO.out.six
      obtain ⟨⟨b0, b1, b2, b3, b4, b5⟩, r0, r1, r2, r3, r4, r5⟩ := HQ.out.six
      obtain ⟨⟨y0, y1, y2, y3, y4, y5⟩, f0, f1, f2, f3, f4, f5⟩ := HC.out.six
      cases ou with
      | err k2 =>
        obtain ⟨hq0, hq1⟩ := HQQ.out
        subst hq0
        have hne2 : (q13 != 0) = true := bne_iff_ne.2 hq1
        have HER := Lib.hid (HE2.out v f t q13 HOO.out HOO2.out)
        have HK8 := Lib.hid hq1
        clear hq1
        go_wp2_with fail
        have HF := Lib.hid (And.intro (HC.out.set6 (.bool bl) (.int .i64 n) (.slice A13 m13 c13) (.int .i64 G13) (.slice A16 (mc8 + mc13) c16) (.int .i64 q13)) (belowR6 HB.out (Nat.le_add_right w.heap.size 1) (.bool bl) (.int .i64 n) (.slice A13 m13 c13) (.int .i64 G13) (.slice A16 (mc8 + mc13) c16) (.int .i64 q13)))
        have HLE := Lib.hid (fun (Xa Xb : Nat → Prop) (h1 : ∀ k, k = w.heap.size + 1 → Xa k) (h2 : ∀ k, Xb k → Xa k) => Le.of_fr (X := Xa) (X' := Xb) (Fr.set6 wc (w.heap.size + 1) (.bool bl) (.int .i64 n) (.slice A13 m13 c13) (.int .i64 G13) (.slice A16 (mc8 + mc13) c16) (.int .i64 q13)) (fun k _ e => h1 k e) (fun k _ e => h2 k e))
        generalize World.setCell _ _ _ = WF at HF HLE ⊢
        obtain ⟨⟨g0, g1, g2, g3, g4, g5⟩, _⟩ := HF.out.1.six
        exact bodyPost_ret (v := .agg #[.bool bl, .int .i64 n, .slice A13 m13 c13, .int .i64 G13, .slice A16 (mc8 + mc13) c16, .int .i64 q13]) (by simp [results, Try.results25, go_sem, g0, g1, g2, g3, g4, g5]) rfl (by rw [HER.out]; exact ⟨HF.out.2, HK8.out, bl, n, A13, m13, c13, G13, A16, mc8 + mc13, c16, rfl, (HCX.out (fun k => X k ∨ k = w.heap.size + 1) (fun k e => by have hsz := HB14.out.size; have hzz := HC14.out.lt; rcases e with e | e; (have := HX.out k e; omega); omega)).le (HLE.out (fun k => X k ∨ k = w.heap.size + 1) X (fun k e => .inr e) (fun k e => .inl e)), by omega⟩)
      | ok b g2 t2 =>
        obtain ⟨hq0, hbl, hn, hm, hG, hmm, hib, hcb, hlb⟩ := HQQ.out
        subst hq0 hbl hn hm hG
        have HEV := Lib.hid (HE3.out v f t b g2 t2 HOO.out HOO2.out)
        have hmk : (kn : Int) % 256 = kn := by omega
        have hmk2 : IntKind.u8.wrap (kn : Int) = kn := by rw [IntKind.wrap_u8]; exact hmk
        have HAP := Lib.hid (rapply_any kn h8 h23 v.n b.n wc)
        have HOPV := Lib.hid (HOP.out b g2 v)
        generalize (apR kn v.n b.n).1 = rv at HAP HOPV
        generalize (apR kn v.n b.n).2 = re at HAP HOPV
        clear hib HQQ
        go_wp2_with fail
        refine HAP.out.mono ?_
        rintro e w17 ⟨rfl, rfl⟩
        by_cases hre : re = 0
        rotate_left
        · have hre2 : (re != 0) = true := bne_iff_ne.2 hre
          have HRE := Lib.hid hre
          rw [if_neg hre] at HOPV
          clear hre
          go_wp2_with fail
          have HF := Lib.hid (And.intro (HC.out.set6 (.bool false) (.int .i64 0) (.slice none 0 0) (.int .i64 0) (.slice none 0 0) (.int .i64 re)) (belowR6 HB.out (Nat.le_add_right w.heap.size 1) (.bool false) (.int .i64 0) (.slice none 0 0) (.int .i64 0) (.slice none 0 0) (.int .i64 re)))
          have HLE := Lib.hid (fun (Xa Xb : Nat → Prop) (h1 : ∀ k, k = w.heap.size + 1 → Xa k) (h2 : ∀ k, Xb k → Xa k) => Le.of_fr (X := Xa) (X' := Xb) (Fr.set6 wc (w.heap.size + 1) (.bool false) (.int .i64 0) (.slice none 0 0) (.int .i64 0) (.slice none 0 0) (.int .i64 re)) (fun k _ e => h1 k e) (fun k _ e => h2 k e))
          generalize World.setCell _ _ _ = WF at HF HLE ⊢
          obtain ⟨⟨g0, g1, g2, g3, g4, g5⟩, _⟩ := HF.out.1.six
          obtain ⟨cx, hcx⟩ := HEV.out
          exact bodyPost_ret (v := .agg #[.bool false, .int .i64 0, .slice none 0 0, .int .i64 0, .slice none 0 0, .int .i64 re]) (by simp [results, Try.results25, go_sem, g0, g1, g2, g3, g4, g5]) rfl (by rw [hcx, HOPV.out]; exact retou_pre (retou_err HRE.out HF.out.2))
        · subst hre
          rw [if_pos rfl] at HOPV
          go_wp2_with fail
          refine (rnum_any rv wc).mono ?_
          rintro e w18 ⟨rfl, hb18⟩
          have HQ18 := Lib.hid (HQ.out.below hb18)
          have HC18 := Lib.hid (HC.out.below hb18)
          have HB18 := Lib.hid (below_step HB.out HB.out.size hb18)
          have HL18 := Lib.hid hb18
          clear b0 b1 b2 b3 b4 b5 r0 r1 r2 r3 r4 r5 y0 y1 y2 y3 y4 y5 f0 f1 f2 f3 f4 f5 hb18
          obtain ⟨⟨b0, b1, b2, b3, b4, b5⟩, r0, r1, r2, r3, r4, r5⟩ := HQ18.out.six
          obtain ⟨⟨y0, y1, y2, y3, y4, y5⟩, f0, f1, f2, f3, f4, f5⟩ := HC18.out.six
          go_wp2_with fail
          have HF := Lib.hid (set36g HC18.out (show w.heap.size + 1 ≠ w13.heap.size by omega) HB18.out (show w.heap.size ≤ w13.heap.size by omega) (Nat.le_add_right w.heap.size 1) (.bool false) (.int .i64 rv) (.slice none 0 0) (.bool false) (.int .i64 rv) (.slice none 0 0) (.int .i64 g2) (.slice A16 (mc8 + mc13) c16) (.int .i64 0))
          generalize World.setCell _ _ _ = WF at HF ⊢
          obtain ⟨⟨g0, g1, g3, g4, g5, g6⟩, _⟩ := HF.out.1.six
          obtain ⟨cx, hcx⟩ := HEV.out
          have HCF := Lib.hid (show CxX WF X A16 (mc8 + mc13) from (HCX.out (fun k => X k ∨ k = w13.heap.size ∨ k = w.heap.size + 1) (fun k e => by have hsz := HB14.out.size; rcases e with e | e | e; (have := HX.out k e; omega); all_goals omega)).le ((Le.below HL18.out (X' := fun k => X k ∨ k = w13.heap.size ∨ k = w.heap.size + 1) (fun _ _ e => e)).trans (Le.of_fr HF.out.2.2 (fun k _ e => .inr e) (fun k _ e => .inl e))))
          exact bodyPost_ret (v := .agg #[.bool false, .int .i64 rv, .slice none 0 0, .int .i64 g2, .slice A16 (mc8 + mc13) c16, .int .i64 0]) (by simp [results, Try.results25, go_sem, g0, g1, g3, g4, g5, g6]) rfl (by rw [hcx, HOPV.out]; exact retou_pre ⟨HF.out.2.1, none, 0, A16, mc8 + mc13, c16, rfl, HCF.out, by omega, IntsX.nil _ _ _, Nat.le_refl 0, Nat.zero_le _⟩)

end Go.Proofs.Ytoankdaddgjnlaa

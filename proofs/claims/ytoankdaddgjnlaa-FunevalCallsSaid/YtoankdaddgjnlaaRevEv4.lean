/-
  The reference's Eval: a number put in front of a list.
-/
import Derived.Test.YtoankdaddgjnlaaRevEv3
import Derived.Laws.OwnMore
namespace Go.Proofs.Ytoankdaddgjnlaa
open Go.ChangeShapes Go.WideShapes Go.ChangeAt Go.RowKit Go.Sort

theorem info_rint : (Try.prog.info? 3).map (fun i => (i.zero, i.size, i.bytes)) = some (some (.int .i64 0), 1, 8) := by kernel_rfl
theorem own_lit1 (W : World) (e : TypeId) (v : Value) : (W.alloc (Obj.cells #[v] e)).ownsRow W.heap.size e 1 (.slice (some ⟨W.heap.size, 0, none⟩) 1 1) 1 [v] := World.ownsRow_lit W #[v] 1 (Nat.le_refl _) (by unfold maxLen; omega) rfl
set_option maxRecDepth 100000 in
set_option maxHeartbeats 4000000 in
theorem reval_87 {X : Nat → Prop} {A : Option Addr} {cap : Nat} {lib : List Fn1} {d : Nat} {x : Nd} {Ak : Option Addr} (ck : Nat) {vs : List (ByteArray × Vl)} {Av : Option Addr} (cv : Nat) {F : Int} {act : Nat} {w : World} (h : RPre X A lib x Ak vs Av F act w) (hF : 0 < F) (ih : REvalC A cap lib d) (hd : F.toNat ≤ d + 1) (hk : x.kind = 87) :
    Calls Try.prog 25 #[.slice A lib.length cap, .slice Av vs.length cv, .agg #[.int .u8 x.kind, .int .i64 x.num, .string x.name, .slice Ak x.kids.length ck], .int .i64 F, .int .i64 act] w (RetOu (ev apR lib (d + 1) act (envL vs) x F.toNat) F.toNat X w) := by
  have H2 := Lib.hid (two_bx w #[.int .u8 x.kind, .int .i64 x.num, .string x.name, .slice Ak x.kids.length ck] #[.bool false, .int .i64 0, .slice none 0 0, .int .i64 0, .slice none 0 0, .int .i64 0] 41 82)
  have hlen : x.kids.length = 2 := one_kid h.form (by rw [hk]; rfl)
  obtain ⟨y, z, hy⟩ : ∃ y z, x.kids = [y, z] := two hlen
  have hEV := ev_two (ap := apR) (lib := lib) (d := d) (act := act) (env := envL vs) (show F.toNat ≠ 0 by omega) (.inr hk) hy
  have HE1 := Lib.hid hEV.1
  have HE2 := Lib.hid hEV.2.1
  have HE3 := Lib.hid hEV.2.2
  have hfn : firstN x = y := by
    unfold firstN kidN
    rw [if_neg (by rw [hy]; rintro (e | e); cases e; omega), hy]; rfl
  have hkz := fit_kid (k := 1) (y := z) (by rw [hy]; rfl) h.fit h.form h.ar
  obtain ⟨kb, ko, Az, cz, hka⟩ := kid_at (k := 1) (z := z) h.kids (by rw [hy]; rfl)
  have HKA := Lib.hid hka
  have hAk := hka.1
  have HFS := Lib.hid (fun (W : World) (hb : Below w.heap.size w W) => rfirst_any x Ak ck W (h.kids.mono hb))
  rw [hfn] at HFS
  have hkid := fit_kid (k := 0) (y := y) (by rw [hy]; rfl) h.fit h.form h.ar
  have HR : Hid (∀ (W : World) (Ay : Option Addr) (cy : Nat), Below w.heap.size w W → w.heap.size + 1 < W.heap.size → NdsAt W Ay y.kids → Calls Try.prog 25 #[.slice A lib.length cap, .slice Av vs.length cv, .agg #[.int .u8 y.kind, .int .i64 y.num, .string y.name, .slice Ay y.kids.length cy], .int .i64 (F - 1), .int .i64 act] W (RetOu (ev apR lib d act (envL vs) y (F.toNat - 1)) (F.toNat - 1) (fun k => X k ∨ k = w.heap.size ∨ k = w.heap.size + 1) W)) := Lib.hid (fun W Ay cy hb hlt hn => by
    have := ih (fun k => X k ∨ k = w.heap.size ∨ k = w.heap.size + 1) y Ay cy vs Av cv (F - 1) act W ⟨h.lb.mono hb, h.vars.below hb (fun k hk e => by rcases e with e | e | e; exact e; omega; omega), hn, hkid.1, hkid.2.1, hkid.2.2.1, by have := h.size; have := hkid.2.2.2; omega, by have := h.fuel; omega, h.act, fun k e => by rcases e with e | e | e; have := h.old k e; have := hb.size; omega; omega; omega, h.cl⟩ (by omega)
    rw [show (F - 1).toNat = F.toNat - 1 by omega] at this
    exact this)
  obtain ⟨o, hoo⟩ : ∃ o, ev apR lib d act (envL vs) y (F.toNat - 1) = o := ⟨_, rfl⟩
  rw [hoo] at HR
  have HOO := Lib.hid hoo
  have HX := Lib.hid h.old
  have hFu := h.fuel
  have hF0 : ¬ F ≤ 0 := by omega
  have hkk := hk
  have HRZ : Hid (∀ (W : World) (X2 : Nat → Prop) (g : Nat), Below w.heap.size w W → (∀ k, k < w.heap.size → X2 k → X k) → (∀ k, X2 k → k < W.heap.size) → g ≤ F.toNat - 1 → Calls Try.prog 25 #[.slice A lib.length cap, .slice Av vs.length cv, .agg #[.int .u8 z.kind, .int .i64 z.num, .string z.name, .slice Az z.kids.length cz], .int .i64 g, .int .i64 act] W (RetOu (ev apR lib d act (envL vs) z g) g X2 W)) := Lib.hid (fun W X2 g hb hX hX2 hg => by
    have := ih X2 z Az cz vs Av cv g act W ⟨h.lb.mono hb, h.vars.below hb hX, HKA.out.2.2.2.2.2.mono hb, hkz.1, hkz.2.1, hkz.2.2.1, by have := h.size; have := hkz.2.2.2; omega, by have := h.fuel; omega, h.act, hX2, h.cl⟩ (by omega)
    rw [show ((g : Int)).toNat = g by omega] at this
    exact this)
  obtain ⟨i0, hi0, hz0, hz1, hz2⟩ := info_parts info_rtree
  have HI := Lib.hid (And.intro hi0 (And.intro hz0 (And.intro hz1 hz2)))
  clear hi0 hz0 hz1 hz2
  have hl1 : (1 : Int) < x.kids.length := by omega
  have hl2 : 1 < x.kids.length := by omega
  subst hAk
  have HNU := Lib.hid (num_82 h.form)
  clear h hEV hfn hkid hlen hy hoo hkz hka
  obtain ⟨j0, hj0, hy0, hy1, hy2⟩ := info_parts info_rint
  have HJ := Lib.hid (And.intro hj0 (And.intro hy0 (And.intro hy1 hy2)))
  clear hj0 hy0 hy1 hy2
  have HOP : Hid (∀ (u : Vl) (g : Nat) (t : Vl), opO apR x [t, u] g = if 1000 ≤ u.l.length then .err 5 else .ok ⟨true, 0, t.n :: u.l⟩ g []) := Lib.hid (fun u g t => by
    unfold opO
    rw [hk, show opR apR 87 x.num [t, u] = if 1000 ≤ u.l.length then (zeroV, 5) else (⟨true, 0, t.n :: u.l⟩, 0) from rfl]
    by_cases h1 : 1000 ≤ u.l.length
    · rw [if_pos h1, if_pos h1]; rfl
    · rw [if_neg h1, if_neg h1]; rfl)
  rw [hk] at H2 HFS ⊢
  clear hk hkk HNU
  go_enter Try.func25, Try.ntmps25
  go_upto_region 1 with fail
  generalize (w.alloc _).alloc _ = W at H2 ⊢
  obtain ⟨x0, x1, x2, x3, _⟩ := H2.out.1.four
  go_wp2_with fail
  refine (HFS.out W H2.out.2.2).mono ?_
  rintro e w7 ⟨hb7, Ay, cy, rfl, hn7⟩
  have HB7 := Lib.hid (below_step H2.out.2.2 H2.out.2.2.size hb7)
  have hlt7 : w.heap.size + 1 < w7.heap.size := by have := H2.out.2.1.lt; have := hb7.size; omega
  have HN7 := Lib.hid hn7
  have HA7 := Lib.hid (H2.out.1.below hb7)
  have HC7 := Lib.hid (H2.out.2.1.below hb7)
  clear hb7 hn7 x0 x1 x2 x3
  go_wp2_with fail
  refine (HR.out w7 Ay cy HB7.out hlt7 HN7.out).mono ?_
  intro e w8 ho
  cases o with
  | err k =>
    obtain ⟨hb8, hk8, bl, n, A8, m8, c8, G8, Ac8, mc8, cc8, rfl, hx8, hm8⟩ := ho
    have HB8 := Lib.hid (below_step HB7.out HB7.out.size hb8)
    have hb9 := below_box w8 (Obj.cells #[.bool bl, .int .i64 n, .slice A8 m8 c8, .int .i64 G8, .slice Ac8 mc8 cc8, .int .i64 k] 82)
    have HO9 := Lib.hid (bx_new w8 #[.bool bl, .int .i64 n, .slice A8 m8 c8, .int .i64 G8, .slice Ac8 mc8 cc8, .int .i64 k] 82)
    have HB9 := Lib.hid (below_step HB8.out HB8.out.size hb9)
    have HA9 := Lib.hid ((HA7.out.below hb8).below hb9)
    have HC9 := Lib.hid ((HC7.out.below hb8).below hb9)
    have HX8 := Lib.hid hx8
    have HL9 := Lib.hid hb9
    have hlt8 : w.heap.size + 1 < w8.heap.size := by have := hb8.size; omega
    have HXX := Lib.hid (hx8.le (Le.below hb9 (fun _ _ e => e)))
    clear hb8 hb9 hx8 HA7 HC7 HB7 HN7
    go_upto_region 12 with fail
    generalize w8.alloc _ = W9 at HO9 HB9 HA9 HC9 HL9 HXX ⊢
    obtain ⟨a0, a1, a2, a3, _⟩ := HA9.out.four
    obtain ⟨⟨o0, o1, o2, o3, o4, o5⟩, p0, p1, p2, p3, p4, p5⟩ := HO9.out.six
    obtain ⟨⟨y0, y1, y2, y3, y4, y5⟩, f0, f1, f2, f3, f4, f5⟩ := HC9.out.six
    have hne : (k != 0) = true := bne_iff_ne.2 hk8
    have HER := Lib.hid (HE1.out k HOO.out)
    have HK8 := Lib.hid hk8
    clear hk8
    go_wp2_with fail
    have HF := Lib.hid (And.intro (HC9.out.set6 (.bool bl) (.int .i64 n) (.slice A8 m8 c8) (.int .i64 G8) (.slice Ac8 mc8 cc8) (.int .i64 k)) (belowR6 HB9.out (Nat.le_add_right w.heap.size 1) (.bool bl) (.int .i64 n) (.slice A8 m8 c8) (.int .i64 G8) (.slice Ac8 mc8 cc8) (.int .i64 k)))
    have HLE := Lib.hid (fun (Xa Xb : Nat → Prop) (h1 : ∀ k, k = w.heap.size + 1 → Xa k) (h2 : ∀ k, Xb k → Xa k) => Le.of_fr (X := Xa) (X' := Xb) (Fr.set6 W9 (w.heap.size + 1) (.bool bl) (.int .i64 n) (.slice A8 m8 c8) (.int .i64 G8) (.slice Ac8 mc8 cc8) (.int .i64 k)) (fun k _ e => h1 k e) (fun k _ e => h2 k e))
    generalize World.setCell _ _ _ = WF at HF HLE ⊢
    obtain ⟨⟨g0, g1, g2, g3, g4, g5⟩, _⟩ := HF.out.1.six
    exact bodyPost_ret (v := .agg #[.bool bl, .int .i64 n, .slice A8 m8 c8, .int .i64 G8, .slice Ac8 mc8 cc8, .int .i64 k]) (by simp [results, Try.results25, go_sem, g0, g1, g2, g3, g4, g5]) rfl (by rw [HER.out]; exact ⟨HF.out.2, HK8.out, bl, n, A8, m8, c8, G8, Ac8, mc8, cc8, rfl, HXX.out.le (HLE.out (fun k => X k ∨ k = w.heap.size ∨ k = w.heap.size + 1) X (fun k e => .inr (.inr e)) (fun k e => .inl e)), by omega⟩)
  | ok v f t =>
    obtain ⟨hb8, A8, c8, Ac8, mc8, cc8, rfl, hx8, hm8, hi8, hc8, hv8⟩ := ho
    have HB8 := Lib.hid (below_step HB7.out HB7.out.size hb8)
    have hb9 := below_box w8 (Obj.cells #[.bool v.list, .int .i64 v.n, .slice A8 v.l.length c8, .int .i64 f, .slice Ac8 mc8 cc8, .int .i64 0] 82)
    have HO9 := Lib.hid (bx_new w8 #[.bool v.list, .int .i64 v.n, .slice A8 v.l.length c8, .int .i64 f, .slice Ac8 mc8 cc8, .int .i64 0] 82)
    have HB9 := Lib.hid (below_step HB8.out HB8.out.size hb9)
    have HA9 := Lib.hid ((HA7.out.below hb8).below hb9)
    have HC9 := Lib.hid ((HC7.out.below hb8).below hb9)
    have HX8 := Lib.hid hx8
    have HL9 := Lib.hid hb9
    have hlt8 : w.heap.size + 1 < w8.heap.size := by have := hb8.size; omega
    have HXX := Lib.hid (hx8.le (Le.below hb9 (fun _ _ e => e)))
    clear hb8 hb9 hx8 HA7 HC7 HB7 HN7
    go_upto_region 12 with fail
    generalize w8.alloc _ = W9 at HO9 HB9 HA9 HC9 HL9 HXX ⊢
    obtain ⟨a0, a1, a2, a3, _⟩ := HA9.out.four
    obtain ⟨⟨o0, o1, o2, o3, o4, o5⟩, p0, p1, p2, p3, p4, p5⟩ := HO9.out.six
    obtain ⟨⟨y0, y1, y2, y3, y4, y5⟩, f0, f1, f2, f3, f4, f5⟩ := HC9.out.six
    have HI8 := Lib.hid hi8
    clear hi8
    obtain ⟨_, hk0, hk1, hk2, hk3, _⟩ := HKA.out
    simp only [Nat.one_mul] at hk0 hk1 hk2 hk3
    replace hk0 := below_cell HB9.out hk0
    replace hk1 := below_cell HB9.out hk1
    replace hk2 := below_cell HB9.out hk2
    replace hk3 := below_cell HB9.out hk3
    have hb12 := below_box W9 (Obj.cells #[.int .u8 z.kind, .int .i64 z.num, .string z.name, .slice Az z.kids.length cz] 41)
    have HZ12 := Lib.hid (bx_new W9 #[.int .u8 z.kind, .int .i64 z.num, .string z.name, .slice Az z.kids.length cz] 41)
    have HB12 := Lib.hid (below_step HB9.out HB9.out.size hb12)
    have HA12 := Lib.hid (HA9.out.below hb12)
    have HC12 := Lib.hid (HC9.out.below hb12)
    have HO12 := Lib.hid (HO9.out.below hb12)
    have HL12 := Lib.hid (below_step HL9.out HL9.out.size hb12)
    have hlt9 := HO9.out.lt
    clear hb12
    go_upto_region 23 with fail
    generalize W9.alloc _ = W12 at HZ12 HB12 HA12 HC12 HO12 HL12 ⊢
    clear a0 a1 a2 a3 o0 o1 o2 o3 o4 o5 p0 p1 p2 p3 p4 p5 y0 y1 y2 y3 y4 y5 f0 f1 f2 f3 f4 f5 hk0 hk1 hk2 hk3
    obtain ⟨a0, a1, a2, a3, _⟩ := HA12.out.four
    obtain ⟨⟨o0, o1, o2, o3, o4, o5⟩, p0, p1, p2, p3, p4, p5⟩ := HO12.out.six
    obtain ⟨z0, z1, z2, z3, e0, e1, e2, e3⟩ := HZ12.out.four
    have HRB := Lib.hid (HRZ.out W12 (fun k => X k ∨ k = w.heap.size ∨ k = w.heap.size + 1 ∨ k = w8.heap.size ∨ k = W9.heap.size) f HB12.out (fun k hk e => by rcases e with e | e | e | e | e; exact e; all_goals omega) (fun k e => by have hsz := HB12.out.size; have hzl := HZ12.out.lt; rcases e with e | e | e | e | e; (have := HX.out k e; omega); all_goals omega) (by omega))
    obtain ⟨ou, hou⟩ : ∃ ou, ev apR lib d act (envL vs) z f = ou := ⟨_, rfl⟩
    rw [hou] at HRB
    have HOO2 := Lib.hid hou
    clear hou
    go_wp2_with fail
    refine HRB.out.mono ?_
    intro e w13 hb
    have hb13 := hb.1
    have HHB := Lib.hid hb
    obtain ⟨bl, n, A13, m13, c13, G13, Ac13, mc13, cc13, q13, rfl, hx13, hm13, hq13⟩ := retou_six hb
    have HQQ := Lib.hid hq13
    have HX13 := Lib.hid hx13
    have HL13 := Lib.hid (below_step HL12.out HL12.out.size hb13)
    have HB13 := Lib.hid (below_step HB12.out HB12.out.size hb13)
    have HA13 := Lib.hid (HA12.out.below hb13)
    have HC13 := Lib.hid (HC12.out.below hb13)
    have HO13 := Lib.hid (HO12.out.below hb13)
    have hlt13 : W9.heap.size < w13.heap.size := by have := HZ12.out.lt; have := hb13.size; omega
    have hb14 := below_box w13 (Obj.cells #[.bool bl, .int .i64 n, .slice A13 m13 c13, .int .i64 G13, .slice Ac13 mc13 cc13, .int .i64 q13] 82)
    have HQ14 := Lib.hid (bx_new w13 #[.bool bl, .int .i64 n, .slice A13 m13 c13, .int .i64 G13, .slice Ac13 mc13 cc13, .int .i64 q13] 82)
    have HL14 := Lib.hid (below_step HL13.out HL13.out.size hb14)
    have HM14 := Lib.hid hb14
    have HB14 := Lib.hid (below_step HB13.out HB13.out.size hb14)
    have HA14 := Lib.hid (HA13.out.below hb14)
    have HC14 := Lib.hid (HC13.out.below hb14)
    have HO14 := Lib.hid (HO13.out.below hb14)
    clear hb13 hb14 a0 a1 a2 a3 o0 o1 o2 o3 o4 o5 p0 p1 p2 p3 p4 p5 z0 z1 z2 z3 e0 e1 e2 e3
    go_upto_region 29 with fail
    generalize w13.alloc _ = W14 at HQ14 HL14 HM14 HB14 HA14 HC14 HO14 ⊢
    obtain ⟨a0, a1, a2, a3, _⟩ := HA14.out.four
    obtain ⟨⟨o0, o1, o2, o3, o4, o5⟩, p0, p1, p2, p3, p4, p5⟩ := HO14.out.six
    obtain ⟨⟨b0, b1, b2, b3, b4, b5⟩, r0, r1, r2, r3, r4, r5⟩ := HQ14.out.six
    obtain ⟨csA, hlA, hcA, hoA⟩ := HX8.out.cells
    obtain ⟨csB, hlB, hcB, hoB⟩ := HX13.out.cells
    have HBE := Lib.hid (belowDrawnP (below_box W14 (Obj.cells #[] 34)))
    have HE := Lib.hid (show (W14.alloc (Obj.cells #[] 34)).drew.ownsRow W14.heap.size 34 6 (.slice (some ⟨W14.heap.size, 0, none⟩) 0 0) 0 [] from own_emptyP W14)
    have HCA := Lib.hid (hcA.mono (below_step HL14.out HL14.out.size HBE.out))
    have HCB := Lib.hid (hcB.mono HM14.out)
    have HOA := Lib.hid (And.intro hoA hoB)
    clear hcA hcB hoA hoB
    have hlo := HO14.out.lt
    have hlq := HQ14.out.lt
    have u4 := below_cell (below_box W14 (Obj.cells #[] 34)) o4
    have v4 := below_cell (below_box W14 (Obj.cells #[] 34)) b4
    go_cut [14] (fun p wc => p = .pointer (some ⟨w13.heap.size, 0, none⟩) ∧ ∃ A16 c16, Hid (Cut29 W14 wc w13.heap.size (.bool bl) (.int .i64 n) (.slice A13 m13 c13) (.int .i64 G13) (.slice A16 (mc8 + mc13) c16) (.int .i64 q13) A16 (mc8 + mc13)))
    case first =>
      go_region_law (first
        | (refine step_app _ (by rfl) (.tmp 113) (.tmp 115) 32 (by rfl) W14.heap.size 34 i0 (.agg #[.int .i64 0, .slice none 0 0, .bool false, .int .i64 0, .slice none 0 0, .slice none 0 0]) 6 96 Try.underlying32 HI.out.1 HI.out.2.1 HI.out.2.2.1 HI.out.2.2.2 rfl (by decide) (.slice (some ⟨W14.heap.size, 0, none⟩) 0 0) 0 [] (by simp [Act.eval]) HE.out Ac8 mc8 cc8 csA (by simp [Act.eval]) hlA HCA.out HOA.out.1 (by unfold maxLen; omega) (by omega) HBE.out.size ?_; intro v15 w15 hown15 hgrow15 _; have q15 := Lib.hid (HBE.out.grown hgrow15 HBE.out.size (fun k hk => by cases hk; exact Nat.le_refl _)); rw [Nat.zero_add, List.nil_append] at hown15; have HO15 := Lib.hid hown15; obtain ⟨A15, c15, rfl, _, _⟩ := cells_of_own hown15 hlA; have s4 := below_cell q15.out b4; have t4 := below_cell q15.out o4; clear hown15 hgrow15)
        | (refine step_app _ (by rfl) (.tmp 116) (.tmp 118) 32 (by rfl) W14.heap.size 34 i0 (.agg #[.int .i64 0, .slice none 0 0, .bool false, .int .i64 0, .slice none 0 0, .slice none 0 0]) 6 96 Try.underlying32 HI.out.1 HI.out.2.1 HI.out.2.2.1 HI.out.2.2.2 rfl (by decide) (.slice A15 mc8 c15) mc8 csA (by simp [Act.eval]) HO15.out Ac13 mc13 cc13 csB (by simp [Act.eval]) hlB (HCB.out.mono q15.out) HOA.out.2 (by unfold maxLen; omega) (by omega) q15.out.size ?_; intro v16 w16 hown16 hgrow16 _; have q16 := Lib.hid (q15.out.grown hgrow16 q15.out.size (fun k hk => own_block_geB HO15.out k hk)); have HO16 := Lib.hid hown16; obtain ⟨A16, c16, rfl, _, hc16⟩ := cells_of_own hown16 (by rw [List.length_append, hlA, hlB]; omega); have HC16 := Lib.hid hc16; obtain ⟨⟨n0, n1, n2, n3, n4, n5⟩, l0, l1, l2, l3, l4, l5⟩ := (HQ14.out.below q16.out).six; clear hown16 hgrow16 hc16)
        | fail)
      all_goals
        go_wp2_with fail
        go_meet
        exact ⟨rfl, A16, c16, Lib.hid (cut29 HQ14.out q16.out HC16.out (by rw [List.length_append, hlA, hlB]; omega) (fun u hu => (List.mem_append.1 hu).elim (HOA.out.1 u) (HOA.out.2 u)) _)⟩
    case rest =>
      obtain ⟨rfl, A16, c16, hcut⟩ := hcut
      have HQ := Lib.hid hcut.out.1
      have HFC := Lib.hid hcut.out.2.1
      have HCX := Lib.hid hcut.out.2.2
      clear hcut HE HBE HCA HCB HOA u4 v4 hlA hlB
      clear a0 a1 a2 a3 o0 o1 o2 o3 o4 o5 p0 p1 p2 p3 p4 p5 b0 b1 b2 b3 b4 b5 r0 r1 r2 r3 r4 r5
      have HA := Lib.hid (HA14.out.fr HFC.out (by omega))
      have HC := Lib.hid (HC14.out.fr HFC.out (by omega))
      have HO := Lib.hid (HO14.out.fr HFC.out (by omega))
      have HB := Lib.hid (HFC.out.below HB14.out (fun k e => by omega))
      obtain ⟨a0, a1, a2, a3, _⟩ := HA.out.four
      obtain ⟨⟨o0, o1, o2, o3, o4, o5⟩, p0, p1, p2, p3, p4, p5⟩ := HO.out.six
      obtain ⟨⟨b0, b1, b2, b3, b4, b5⟩, r0, r1, r2, r3, r4, r5⟩ := HQ.out.six
      obtain ⟨⟨y0, y1, y2, y3, y4, y5⟩, f0, f1, f2, f3, f4, f5⟩ := HC.out.six
      cases ou with
      | err k2 =>
        obtain ⟨hq0, hq1⟩ := HQQ.out
        subst hq0
        have hne2 : (q13 != 0) = true := bne_iff_ne.2 hq1
        have HER := Lib.hid (HE2.out v f t q13 HOO.out HOO2.out)
        have HK8 := Lib.hid hq1
        clear hq1
        go_wp2_with fail
        have HF := Lib.hid (And.intro (HC.out.set6 (.bool bl) (.int .i64 n) (.slice A13 m13 c13) (.int .i64 G13) (.slice A16 (mc8 + mc13) c16) (.int .i64 q13)) (belowR6 HB.out (Nat.le_add_right w.heap.size 1) (.bool bl) (.int .i64 n) (.slice A13 m13 c13) (.int .i64 G13) (.slice A16 (mc8 + mc13) c16) (.int .i64 q13)))
        have HLE := Lib.hid (fun (Xa Xb : Nat → Prop) (h1 : ∀ k, k = w.heap.size + 1 → Xa k) (h2 : ∀ k, Xb k → Xa k) => Le.of_fr (X := Xa) (X' := Xb) (Fr.set6 wc (w.heap.size + 1) (.bool bl) (.int .i64 n) (.slice A13 m13 c13) (.int .i64 G13) (.slice A16 (mc8 + mc13) c16) (.int .i64 q13)) (fun k _ e => h1 k e) (fun k _ e => h2 k e))
        generalize World.setCell _ _ _ = WF at HF HLE ⊢
        obtain ⟨⟨g0, g1, g2, g3, g4, g5⟩, _⟩ := HF.out.1.six
        exact bodyPost_ret (v := .agg #[.bool bl, .int .i64 n, .slice A13 m13 c13, .int .i64 G13, .slice A16 (mc8 + mc13) c16, .int .i64 q13]) (by simp [results, Try.results25, go_sem, g0, g1, g2, g3, g4, g5]) rfl (by rw [HER.out]; exact ⟨HF.out.2, HK8.out, bl, n, A13, m13, c13, G13, A16, mc8 + mc13, c16, rfl, (HCX.out (fun k => X k ∨ k = w.heap.size + 1) (fun k e => by have hsz := HB14.out.size; have hzz := HC14.out.lt; rcases e with e | e; (have := HX.out k e; omega); omega)).le (HLE.out (fun k => X k ∨ k = w.heap.size + 1) X (fun k e => .inr e) (fun k e => .inl e)), by omega⟩)
      | ok b g2 t2 =>
        obtain ⟨hq0, hbl, hn, hm, hG, hmm, hib, hcb, hlb⟩ := HQQ.out
        subst hq0 hbl hn hm hG
        have HEV := Lib.hid (HE3.out v f t b g2 t2 HOO.out HOO2.out)
        have HOPV := Lib.hid (HOP.out b g2 v)
        have HIB := Lib.hid hib
        clear hib HQQ
        by_cases h1000 : 1000 ≤ b.l.length
        · have h1 : (1000 : Int) ≤ b.l.length := by omega
          rw [if_pos h1000] at HOPV
          go_wp2_with fail
          have HF := Lib.hid (And.intro (HC.out.set6 (.bool false) (.int .i64 0) (.slice none 0 0) (.int .i64 0) (.slice none 0 0) (.int .i64 5)) (belowR6 HB.out (Nat.le_add_right w.heap.size 1) (.bool false) (.int .i64 0) (.slice none 0 0) (.int .i64 0) (.slice none 0 0) (.int .i64 5)))
          have HLE := Lib.hid (fun (Xa Xb : Nat → Prop) (h1 : ∀ k, k = w.heap.size + 1 → Xa k) (h2 : ∀ k, Xb k → Xa k) => Le.of_fr (X := Xa) (X' := Xb) (Fr.set6 wc (w.heap.size + 1) (.bool false) (.int .i64 0) (.slice none 0 0) (.int .i64 0) (.slice none 0 0) (.int .i64 5)) (fun k _ e => h1 k e) (fun k _ e => h2 k e))
          generalize World.setCell _ _ _ = WF at HF HLE ⊢
          obtain ⟨⟨g0, g1, g2, g3, g4, g5⟩, _⟩ := HF.out.1.six
          obtain ⟨cx, hcx⟩ := HEV.out
          exact bodyPost_ret (v := .agg #[.bool false, .int .i64 0, .slice none 0 0, .int .i64 0, .slice none 0 0, .int .i64 5]) (by simp [results, Try.results25, go_sem, g0, g1, g2, g3, g4, g5]) rfl (by rw [hcx, HOPV.out]; exact retou_pre (retou_err (by decide) HF.out.2))
        · have h1 : ¬ (1000 : Int) ≤ b.l.length := by omega
          rw [if_neg h1000] at HOPV
          have HLI := Lib.hid (own_lit1 wc 3 (.int .i64 v.n))
          have hba := below_box wc (Obj.cells #[.int .i64 v.n] 3)
          have HBA := Lib.hid hba
          have HIW := Lib.hid ((HIB.out.le ((Le.below HM14.out (X' := fun k => (X k ∨ k = w.heap.size ∨ k = w.heap.size + 1 ∨ k = w8.heap.size ∨ k = W9.heap.size) ∨ k = w13.heap.size) (fun k hk e => e.resolve_right (by omega))).trans ((Le.of_fr HFC.out (fun k _ e => .inr e) (X' := fun k => (X k ∨ k = w.heap.size ∨ k = w.heap.size + 1 ∨ k = w8.heap.size ∨ k = W9.heap.size) ∨ k = w13.heap.size) (fun _ _ e => e)).trans (Le.below hba (fun _ _ e => e))))).at_.cells)
          have hlw := HQ.out.lt
          have hlo2 := HO.out.lt
          have hlr := HC.out.lt
          have w2 := below_cell hba b2
          clear hba
          have hYw : ∀ k, (X k ∨ k = w13.heap.size ∨ k = w.heap.size + 1) → k < wc.heap.size := fun k e => by
            have hsz := HB.out.size
            rcases e with e | e | e
            · have := HX.out k e; omega
            · omega
            · omega
          go_upto_region 35 with fail
          go_wp2_with (at_builtin; refine wpList_app _ rfl (.tmp 147) (.tmp 150) 26 rfl wc.heap.size 3 j0 (.int .i64 0) 1 8 Try.underlying26 HJ.out.1 HJ.out.2.1 HJ.out.2.2.1 HJ.out.2.2.2 rfl (by decide) (.slice (some ⟨wc.heap.size, 0, none⟩) 1 1) 1 [.int .i64 v.n] rfl HLI.out A13 b.l.length c13 (b.l.map (Value.int .i64)) rfl (by simp) HIW.out (fun u hu => by obtain ⟨a, _, rfl⟩ := List.mem_map.1 hu; rfl) (by unfold maxLen; omega) (by omega) HBA.out.size ?_; intro v19 w19 hown19 hgrow19 _; have q19 := HBA.out.grown hgrow19 HBA.out.size (fun k hk => by cases hk; exact Nat.le_refl _); have hown20 : w19.ownsRow wc.heap.size 3 1 v19 (v.n :: b.l).length ((v.n :: b.l).map (Value.int .i64)) := (by rw [List.length_cons, Nat.add_comm]; exact hown19); obtain ⟨A19, c19, rfl, hi19⟩ := intsC_of_own (X := fun k => X k ∨ k = w13.heap.size ∨ k = w.heap.size + 1) hown20 (fun g hg hy => by have h3 := own_block_geB hown20 g hg; have h4 := hYw g hy; omega); have HI19 := Lib.hid hi19; have HQ19 := Lib.hid (HQ.out.below q19); have HC19 := Lib.hid (HC.out.below q19); have HB19 := Lib.hid (below_step HB.out HB.out.size q19); have HL19 := Lib.hid q19; clear b0 b1 b2 b3 b4 b5 r0 r1 r2 r3 r4 r5 y0 y1 y2 y3 y4 y5 f0 f1 f2 f3 f4 f5; obtain ⟨⟨b0, b1, b2, b3, b4, b5⟩, r0, r1, r2, r3, r4, r5⟩ := HQ19.out.six; obtain ⟨⟨y0, y1, y2, y3, y4, y5⟩, f0, f1, f2, f3, f4, f5⟩ := HC19.out.six; clear hown19 hown20 hgrow19 hi19 q19 w2)
          have HF := Lib.hid (set36g HC19.out (show w.heap.size + 1 ≠ w13.heap.size by omega) HB19.out (show w.heap.size ≤ w13.heap.size by omega) (Nat.le_add_right w.heap.size 1) (.bool true) (.int .i64 0) (.slice A19 (b.l.length + 1) c19) (.bool true) (.int .i64 0) (.slice A19 (b.l.length + 1) c19) (.int .i64 g2) (.slice A16 (mc8 + mc13) c16) (.int .i64 0))
          generalize World.setCell _ _ _ = WF at HF ⊢
          obtain ⟨⟨g0, g1, g3, g4, g5, g6⟩, _⟩ := HF.out.1.six
          obtain ⟨cx, hcx⟩ := HEV.out
          have HLF := Lib.hid (Le.of_fr HF.out.2.2 (X := fun k => X k ∨ k = w13.heap.size ∨ k = w.heap.size + 1) (X' := X) (fun k _ e => .inr e) (fun k _ e => .inl e))
          have HCF := Lib.hid (show CxX WF X A16 (mc8 + mc13) from (HCX.out (fun k => X k ∨ k = w13.heap.size ∨ k = w.heap.size + 1) (fun k e => by have hsz := HB14.out.size; rcases e with e | e | e; (have := HX.out k e; omega); all_goals omega)).le ((Le.below HL19.out (X' := fun k => X k ∨ k = w13.heap.size ∨ k = w.heap.size + 1) (fun _ _ e => e)).trans HLF.out))
          have hcap : b.l.length + 1 ≤ c19 := HI19.out.1
          exact bodyPost_ret (v := .agg #[.bool true, .int .i64 0, .slice A19 (b.l.length + 1) c19, .int .i64 g2, .slice A16 (mc8 + mc13) c16, .int .i64 0]) (by simp [results, Try.results25, go_sem, g0, g1, g3, g4, g5, g6]) rfl (by rw [hcx, HOPV.out]; exact retou_pre ⟨HF.out.2.1, A19, c19, A16, mc8 + mc13, c16, rfl, HCF.out, by omega, HI19.out.2.le HLF.out, hcap, by show b.l.length + 1 ≤ 1000000; omega⟩)

end Go.Proofs.Ytoankdaddgjnlaa

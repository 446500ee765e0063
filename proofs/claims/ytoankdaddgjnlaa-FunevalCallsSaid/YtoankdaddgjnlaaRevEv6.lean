/-
  The reference's Eval: let.
-/
import Derived.Test.YtoankdaddgjnlaaRevEv5
import Derived.Deep.RegionHeld3
namespace Go.Proofs.Ytoankdaddgjnlaa
open Go.ChangeShapes Go.WideShapes Go.ChangeAt Go.RowKit Go.Sort

theorem own_emptyER {w W : World} {B C : Nat} (hB : W.heap.size = C) (hC : B ≤ C) (e : TypeId) (hw : w = (W.alloc (Obj.cells #[] e))) {size : Nat} : w.ownsRow B e size (.slice (some ⟨C, 0, none⟩) 0 0) 0 [] := by
  subst hB hw
  exact ⟨by simp, .inr ⟨W.heap.size, 0, #[], rfl, hC, heap_alloc_new W _, Nat.le_refl _, by simp [maxLen], by simp, by simp⟩⟩
theorem cells_newUR (w : World) {C : Nat} (hC : w.heap.size = C) (cs : List Value) (T : TypeId) : CellsAt (w.alloc (Obj.cells cs.toArray T)) (some ⟨C, 0, none⟩) cs := fun j u hu => ⟨C, 0, rfl, by
  subst hC
  rw [Nat.zero_add]
  exact (show Bx (w.alloc (Obj.cells cs.toArray T)) w.heap.size cs.toArray from bx_new w _ T).cell (by simpa using hu)⟩
theorem cellsAt_drewR {w : World} {A : Option Addr} {cs : List Value} (h : CellsAt w A cs) : CellsAt w.drew A cs := h
theorem cellsAt_grownR {w w' : World} {C : Nat} {cs : List Value} {r : Option Nat} (h : CellsAt w (some ⟨C, 0, none⟩) cs) (hg : w.grownBy w' r) (hn : ∀ g, r = some g → g ≠ C) : CellsAt w' (some ⟨C, 0, none⟩) cs := fun j u hu => by
  obtain ⟨b, o, e, h1⟩ := h j u hu
  cases e
  exact ⟨C, 0, rfl, (Fr.of_grown hg).cell h1 (fun e => hn _ e.symm rfl)⟩
theorem vars_snoc {w w9 w10 : World} {v5 v6 : Value} {cs : List Value} {n : Nat} {e : TypeId} (hb : Below w.heap.size w w9) (hown : w10.ownsRow w.heap.size e 4 v6 (n + 1) cs) (hg : w9.grownBy w10 v5.ownBlock) (ho : ∀ k, v5.ownBlock = some k → w.heap.size ≤ k) (hl : cs.length = (n + 1) * 4) : ∃ A c, v6 = .slice A (n + 1) c ∧ CellsAt w10 A cs ∧ Below w.heap.size w w10 := by
  have hb2 := hb.grown hg hb.size ho
  obtain ⟨A, c, e, _, h⟩ := cells_of_own hown hl
  exact ⟨A, c, e, fun j u hu => by obtain ⟨b, o, e1, _, h1⟩ := h j u hu; exact ⟨b, o, e1, h1⟩, hb2⟩
theorem two_boxR (w : World) (o1 o2 : Obj) : Below w.heap.size w ((w.alloc o1).alloc o2) := ((Below.refl _ _).alloc (Nat.le_refl _) _).alloc (by simp) _
theorem belowDrewUR {B : Nat} {W w : World} (h : Below B W w) : Below B W w.drew := ⟨h.os, h.tape, h.output, h.size, h.block⟩
theorem info_rvar : (Try.prog.info? 80).map (fun i => (i.zero, i.size, i.bytes)) = some (some (.agg #[.string ⟨#[]⟩, .bool false, .int .i64 0, .slice none 0 0]), 4, 56) := by kernel_rfl
theorem ev_84R {ap : Int → Int → Int → Int × Int} {lib : List Fn1} {d act : Nat} {env : ByteArray → Option Vl} {x y z : Nd} {f : Nat} (h0 : f ≠ 0) (hk : x.kind = 84) (hx : x.kids = [y, z]) :
    (∀ k, ev ap lib d act env y (f - 1) = .err k → ev ap lib (d + 1) act env x f = .err k) ∧
    (∀ v g c, ev ap lib d act env y (f - 1) = .ok v g c → ev ap lib (d + 1) act env x f = (ev ap lib d act (setV env x.name v) z g).pre c) := by
  rw [ev, if_neg h0, if_neg (by omega), if_neg (by omega), if_neg (by omega), if_pos hk]
  have n0 : kidN x 0 = y := by unfold kidN; rw [hx]; rfl
  have n1 : kidN x 1 = z := by unfold kidN; rw [hx]; rfl
  rw [n0, n1]
  refine ⟨?_, ?_⟩
  · intro k hk2
    rw [hk2]; rfl
  · intro v g c hv
    rw [hv]
    rfl
set_option maxRecDepth 100000 in
set_option maxHeartbeats 4000000 in
theorem reval_84 {X : Nat → Prop} {A : Option Addr} {cap : Nat} {lib : List Fn1} {d : Nat} {x : Nd} {Ak : Option Addr} (ck : Nat) {vs : List (ByteArray × Vl)} {Av : Option Addr} (cv : Nat) {F : Int} {act : Nat} {w : World} (h : RPre X A lib x Ak vs Av F act w) (hF : 0 < F) (ih : REvalC A cap lib d) (hd : F.toNat ≤ d + 1) (hk : x.kind = 84) :
    Calls Try.prog 25 #[.slice A lib.length cap, .slice Av vs.length cv, .agg #[.int .u8 x.kind, .int .i64 x.num, .string x.name, .slice Ak x.kids.length ck], .int .i64 F, .int .i64 act] w (RetOu (ev apR lib (d + 1) act (envL vs) x F.toNat) F.toNat X w) := by
  have H2 := Lib.hid (two_bx w #[.int .u8 x.kind, .int .i64 x.num, .string x.name, .slice Ak x.kids.length ck] #[.bool false, .int .i64 0, .slice none 0 0, .int .i64 0, .slice none 0 0, .int .i64 0] 41 82)
  have hlen : x.kids.length = 2 := one_kid h.form (by rw [hk]; rfl)
  obtain ⟨y, z, hy⟩ : ∃ y z, x.kids = [y, z] := two hlen
  have hEV := ev_84R (ap := apR) (lib := lib) (d := d) (act := act) (env := envL vs) (show F.toNat ≠ 0 by omega) hk hy
  have HE1 := Lib.hid hEV.1
  have HEa := Lib.hid hEV.2
  have hfn : firstN x = y := by
    unfold firstN kidN
    rw [if_neg (by rw [hy]; rintro (e | e); cases e; omega), hy]; rfl
  have hkz := fit_kid (k := 1) (y := z) (by rw [hy]; rfl) h.fit h.form h.ar
  obtain ⟨kb, ko, Az, cz, hka⟩ := kid_at (k := 1) (z := z) h.kids (by rw [hy]; rfl)
  have HKA := Lib.hid hka
  have hAk := hka.1
  have HFS := Lib.hid (fun (W : World) (hb : Below w.heap.size w W) => rfirst_any x Ak ck W (h.kids.mono hb))
  rw [hfn] at HFS
  have hkid := fit_kid (k := 0) (y := y) (by rw [hy]; rfl) h.fit h.form h.ar
  have HR : Hid (∀ (W : World) (Ay : Option Addr) (cy : Nat), Below w.heap.size w W → w.heap.size + 1 < W.heap.size → NdsAt W Ay y.kids → Calls Try.prog 25 #[.slice A lib.length cap, .slice Av vs.length cv, .agg #[.int .u8 y.kind, .int .i64 y.num, .string y.name, .slice Ay y.kids.length cy], .int .i64 (F - 1), .int .i64 act] W (RetOu (ev apR lib d act (envL vs) y (F.toNat - 1)) (F.toNat - 1) (fun k => X k ∨ k = w.heap.size ∨ k = w.heap.size + 1) W)) := Lib.hid (fun W Ay cy hb hlt hn => by
    have := ih (fun k => X k ∨ k = w.heap.size ∨ k = w.heap.size + 1) y Ay cy vs Av cv (F - 1) act W ⟨h.lb.mono hb, h.vars.below hb (fun k hk e => by rcases e with e | e | e; exact e; omega; omega), hn, hkid.1, hkid.2.1, hkid.2.2.1, by have := h.size; have := hkid.2.2.2; omega, by have := h.fuel; omega, h.act, fun k e => by rcases e with e | e | e; have := h.old k e; have := hb.size; omega; omega; omega, h.cl⟩ (by omega)
    rw [show (F - 1).toNat = F.toNat - 1 by omega] at this
    exact this)
  obtain ⟨o, hoo⟩ : ∃ o, ev apR lib d act (envL vs) y (F.toNat - 1) = o := ⟨_, rfl⟩
  rw [hoo] at HR
  have HOO := Lib.hid hoo
  have HX := Lib.hid h.old
  have hFu := h.fuel
  have hF0 : ¬ F ≤ 0 := by omega
  have hkk := hk
  have HRQ : Hid (∀ (u : Vl) (W : World) (X2 : Nat → Prop) (g : Nat) (An : Option Addr) (cn : Nat), Below w.heap.size w W → VarsC W X2 An (vs ++ [(x.name, u)]) → (∀ k, X2 k → k < W.heap.size) → g ≤ F.toNat - 1 → Cl u → Calls Try.prog 25 #[.slice A lib.length cap, .slice An (vs.length + 1) cn, .agg #[.int .u8 z.kind, .int .i64 z.num, .string z.name, .slice Az z.kids.length cz], .int .i64 g, .int .i64 act] W (RetOu (ev apR lib d act (setV (envL vs) x.name u) z g) g X2 W)) := Lib.hid (fun u W X2 g An cn hb hV hX2 hg hu => by
    have := ih X2 z Az cz (vs ++ [(x.name, u)]) An cn g act W ⟨h.lb.mono hb, hV, HKA.out.2.2.2.2.2.mono hb, hkz.1, hkz.2.1, hkz.2.2.1, by have := h.size; have := hkz.2.2.2; simp; omega, by have := h.fuel; omega, h.act, hX2, fun q hq => (List.mem_append.1 hq).elim (h.cl q) (fun e => by rw [List.mem_singleton.1 e]; exact hu)⟩ (by omega)
    rw [show ((g : Int)).toNat = g by omega, envL_snoc, show (vs ++ [(x.name, u)]).length = vs.length + 1 by simp] at this
    exact this)
  obtain ⟨csV, rowV, cellsV⟩ := h.vars
  have HCLE := Lib.hid (cl_env h.cl)
  have HRV := Lib.hid rowV
  have HCV := Lib.hid cellsV
  have HLEN := Lib.hid (rowV.len VarC.len)
  have HRL1 := Lib.hid (rowV.one VarC.one)
  have hvl : vs.length ≤ 1000000 := by have := h.size; omega
  obtain ⟨i0, hi0, hz0, hz1, hz2⟩ := info_parts info_rtree
  have HI := Lib.hid (And.intro hi0 (And.intro hz0 (And.intro hz1 hz2)))
  clear hi0 hz0 hz1 hz2
  obtain ⟨k0, hi0, hz0, hz1, hz2⟩ := info_parts info_rvar
  have HI2 := Lib.hid (And.intro hi0 (And.intro hz0 (And.intro hz1 hz2)))
  clear hi0 hz0 hz1 hz2
  have hl1 : (1 : Int) < x.kids.length := by omega
  have hl2 : 1 < x.kids.length := by omega
  subst hAk
  clear h hEV hfn hkid hlen hy hoo hkz hka rowV cellsV
  rw [hk] at H2 HFS ⊢
  clear hk hkk
  go_enter Try.func25, Try.ntmps25
  go_upto_region 1 with fail
  generalize (w.alloc _).alloc _ = W at H2 ⊢
  obtain ⟨x0, x1, x2, x3, _⟩ := H2.out.1.four
  go_wp2_with fail
  refine (HFS.out W H2.out.2.2).mono ?_
  rintro e w7 ⟨hb7, Ay, cy, rfl, hn7⟩
  have HB7 := Lib.hid (below_step H2.out.2.2 H2.out.2.2.size hb7)
  have hlt7 : w.heap.size + 1 < w7.heap.size := by have := H2.out.2.1.lt; have := hb7.size; omega
  have HN7 := Lib.hid hn7
  have HA7 := Lib.hid (H2.out.1.below hb7)
  have HC7 := Lib.hid (H2.out.2.1.below hb7)
  clear hb7 hn7 x0 x1 x2 x3
  go_wp2_with fail
  refine (HR.out w7 Ay cy HB7.out hlt7 HN7.out).mono ?_
  intro e w8 ho
  cases o with
  | err k =>
    obtain ⟨hb8, hk8, bl, n, A8, m8, c8, G8, Ac8, mc8, cc8, rfl, hx8, hm8⟩ := ho
    have HB8 := Lib.hid (below_step HB7.out HB7.out.size hb8)
    have hb9 := below_box w8 (Obj.cells #[.bool bl, .int .i64 n, .slice A8 m8 c8, .int .i64 G8, .slice Ac8 mc8 cc8, .int .i64 k] 82)
    have HO9 := Lib.hid (bx_new w8 #[.bool bl, .int .i64 n, .slice A8 m8 c8, .int .i64 G8, .slice Ac8 mc8 cc8, .int .i64 k] 82)
    have HB9 := Lib.hid (below_step HB8.out HB8.out.size hb9)
    have HA9 := Lib.hid ((HA7.out.below hb8).below hb9)
    have HC9 := Lib.hid ((HC7.out.below hb8).below hb9)
    have HX8 := Lib.hid hx8
    have HL9 := Lib.hid hb9
    have hlt8 : w.heap.size + 1 < w8.heap.size := by have := hb8.size; omega
    have HXX := Lib.hid (hx8.le (Le.below hb9 (fun _ _ e => e)))
    clear hb8 hb9 hx8 HA7 HC7 HB7 HN7
    go_upto_region 12 with fail
    generalize w8.alloc _ = W9 at HO9 HB9 HA9 HC9 HL9 HXX ⊢
    obtain ⟨a0, a1, a2, a3, _⟩ := HA9.out.four
    obtain ⟨⟨o0, o1, o2, o3, o4, o5⟩, p0, p1, p2, p3, p4, p5⟩ := HO9.out.six
    obtain ⟨⟨y0, y1, y2, y3, y4, y5⟩, f0, f1, f2, f3, f4, f5⟩ := HC9.out.six
    have hne : (k != 0) = true := bne_iff_ne.2 hk8
    have HER := Lib.hid (HE1.out k HOO.out)
    have HK8 := Lib.hid hk8
    clear hk8
    go_wp2_with fail
    have HF := Lib.hid (And.intro (HC9.out.set6 (.bool bl) (.int .i64 n) (.slice A8 m8 c8) (.int .i64 G8) (.slice Ac8 mc8 cc8) (.int .i64 k)) (belowR6 HB9.out (Nat.le_add_right w.heap.size 1) (.bool bl) (.int .i64 n) (.slice A8 m8 c8) (.int .i64 G8) (.slice Ac8 mc8 cc8) (.int .i64 k)))
    have HLE := Lib.hid (fun (Xa Xb : Nat → Prop) (h1 : ∀ k, k = w.heap.size + 1 → Xa k) (h2 : ∀ k, Xb k → Xa k) => Le.of_fr (X := Xa) (X' := Xb) (Fr.set6 W9 (w.heap.size + 1) (.bool bl) (.int .i64 n) (.slice A8 m8 c8) (.int .i64 G8) (.slice Ac8 mc8 cc8) (.int .i64 k)) (fun k _ e => h1 k e) (fun k _ e => h2 k e))
    generalize World.setCell _ _ _ = WF at HF HLE ⊢
    obtain ⟨⟨g0, g1, g2, g3, g4, g5⟩, _⟩ := HF.out.1.six
    exact bodyPost_ret (v := .agg #[.bool bl, .int .i64 n, .slice A8 m8 c8, .int .i64 G8, .slice Ac8 mc8 cc8, .int .i64 k]) (by simp [results, Try.results25, go_sem, g0, g1, g2, g3, g4, g5]) rfl (by rw [HER.out]; exact ⟨HF.out.2, HK8.out, bl, n, A8, m8, c8, G8, Ac8, mc8, cc8, rfl, HXX.out.le (HLE.out (fun k => X k ∨ k = w.heap.size ∨ k = w.heap.size + 1) X (fun k e => .inr (.inr e)) (fun k e => .inl e)), by omega⟩)
  | ok v f t =>
    obtain ⟨hb8, A8, c8, Ac8, mc8, cc8, rfl, hx8, hm8, hi8, hc8, hv8⟩ := ho
    have HB8 := Lib.hid (below_step HB7.out HB7.out.size hb8)
    have hb9 := below_box w8 (Obj.cells #[.bool v.list, .int .i64 v.n, .slice A8 v.l.length c8, .int .i64 f, .slice Ac8 mc8 cc8, .int .i64 0] 82)
    have HO9 := Lib.hid (bx_new w8 #[.bool v.list, .int .i64 v.n, .slice A8 v.l.length c8, .int .i64 f, .slice Ac8 mc8 cc8, .int .i64 0] 82)
    have HB9 := Lib.hid (below_step HB8.out HB8.out.size hb9)
    have HA9 := Lib.hid ((HA7.out.below hb8).below hb9)
    have HC9 := Lib.hid ((HC7.out.below hb8).below hb9)
    have HX8 := Lib.hid hx8
    have HL9 := Lib.hid hb9
    have hlt8 : w.heap.size + 1 < w8.heap.size := by have := hb8.size; omega
    have HXX := Lib.hid (hx8.le (Le.below hb9 (fun _ _ e => e)))
    clear hb8 hb9 hx8 HA7 HC7 HB7 HN7
    go_upto_region 12 with fail
    generalize w8.alloc _ = W9 at HO9 HB9 HA9 HC9 HL9 HXX ⊢
    obtain ⟨a0, a1, a2, a3, _⟩ := HA9.out.four
    obtain ⟨⟨o0, o1, o2, o3, o4, o5⟩, p0, p1, p2, p3, p4, p5⟩ := HO9.out.six
    obtain ⟨⟨y0, y1, y2, y3, y4, y5⟩, f0, f1, f2, f3, f4, f5⟩ := HC9.out.six
    have HI8 := Lib.hid hi8
    clear hi8
    obtain ⟨_, hk0, hk1, hk2, hk3, _⟩ := HKA.out
    simp only [Nat.one_mul] at hk0 hk1 hk2 hk3
    replace hk0 := below_cell HB9.out hk0
    replace hk1 := below_cell HB9.out hk1
    replace hk2 := below_cell HB9.out hk2
    replace hk3 := below_cell HB9.out hk3
    have hb12 := below_box W9 (Obj.cells #[.int .u8 z.kind, .int .i64 z.num, .string z.name, .slice Az z.kids.length cz] 41)
    have HZ12 := Lib.hid (bx_new W9 #[.int .u8 z.kind, .int .i64 z.num, .string z.name, .slice Az z.kids.length cz] 41)
    have HB12 := Lib.hid (below_step HB9.out HB9.out.size hb12)
    have HA12 := Lib.hid (HA9.out.below hb12)
    have HC12 := Lib.hid (HC9.out.below hb12)
    have HO12 := Lib.hid (HO9.out.below hb12)
    have HL12 := Lib.hid (below_step HL9.out HL9.out.size hb12)
    have hlt9 := HO9.out.lt
    clear hb12
    go_upto_region 23 with fail
    generalize W9.alloc _ = W12 at HZ12 HB12 HA12 HC12 HO12 HL12 ⊢
    clear a0 a1 a2 a3 o0 o1 o2 o3 o4 o5 p0 p1 p2 p3 p4 p5 y0 y1 y2 y3 y4 y5 f0 f1 f2 f3 f4 f5 hk0 hk1 hk2 hk3
    obtain ⟨a0, a1, a2, a3, _⟩ := HA12.out.four
    obtain ⟨⟨o0, o1, o2, o3, o4, o5⟩, p0, p1, p2, p3, p4, p5⟩ := HO12.out.six
    obtain ⟨z0, z1, z2, z3, e0, e1, e2, e3⟩ := HZ12.out.four
    go_upto_region 27 with fail
    have hbP := Below.refl W12.heap.size W12
    have HCL := Lib.hid (fun (Y : World) (hY : Below W12.heap.size W12 Y) => (HCV.out.mono HB12.out).mono hY)
    have KS := Lib.hid (fun (Y : World) (hY : Below W12.heap.size W12 Y) => show Y.cell? ⟨w.heap.size, 2, none⟩ = some (.string x.name) ∧ Y.cell? ⟨w8.heap.size, 0, none⟩ = some (.bool v.list) ∧ Y.cell? ⟨w8.heap.size, 1, none⟩ = some (.int .i64 v.n) ∧ Y.cell? ⟨w8.heap.size, 2, none⟩ = some (.slice A8 v.l.length c8) from ⟨(HA12.out.below hY).cell rfl, (HO12.out.below hY).cell rfl, (HO12.out.below hY).cell rfl, (HO12.out.below hY).cell rfl⟩)
    have hgx := HA12.out.lt
    have hgy := HO12.out.lt
    have HONE : Hid (∀ u ∈ ([.string x.name, .bool v.list, .int .i64 v.n, .slice A8 v.l.length c8] : List Value), u.oneCell' = true) := Lib.hid (VarC.one _ (x.name, v) ⟨A8, c8, rfl, (HI8.out : IntsX w8 _ A8 v.l), hc8, hv8⟩)
    have HLL : Hid ((csV ++ ([.string x.name, .bool v.list, .int .i64 v.n, .slice A8 v.l.length c8] : List Value)).length = (vs.length + 1) * 4) := Lib.hid (by rw [List.length_append, HLEN.out]; simp; omega)
    have HE1' := HE1
    clear HE1
    have HE1 := Lib.hid (show (W12.alloc (Obj.cells #[] 80)).drew.ownsRow W12.heap.size 80 4 (.slice (some ⟨W12.heap.size, 0, none⟩) 0 0) 0 [] from own_emptyER rfl (Nat.le_refl _) _ rfl)
    have HE2 := Lib.hid (fun (c : Obj) => show ((W12.alloc (Obj.cells #[] 80)).alloc c).drew.ownsRow W12.heap.size 80 4 (.slice (some ⟨W12.heap.size, 0, none⟩) 0 0) 0 [] from (own_emptyER (W := W12) rfl (Nat.le_refl _) _ rfl).alloc c)
    have HE3 := Lib.hid (fun (c : Obj) => show ((W12.alloc c).alloc (Obj.cells #[] 80)).drew.ownsRow W12.heap.size 80 4 (.slice (some ⟨W12.heap.size + 1, 0, none⟩) 0 0) 0 [] from own_emptyER (W := W12.alloc c) (by simp) (Nat.le_succ _) _ rfl)
    go_cut [13] (fun p wc => ∃ A20 c20, p = .slice A20 (vs.length + 1) c20 ∧ Hid (CellsAt wc A20 (csV ++ [.string x.name, .bool v.list, .int .i64 v.n, .slice A8 v.l.length c8]) ∧ Below W12.heap.size W12 wc))
    case first =>
      go_region_held3 (fun w' => w'.cell? ⟨w.heap.size, 2, none⟩ = some (.string x.name) ∧ w'.cell? ⟨w8.heap.size, 0, none⟩ = some (.bool v.list) ∧ w'.cell? ⟨w8.heap.size, 1, none⟩ = some (.int .i64 v.n) ∧ w'.cell? ⟨w8.heap.size, 2, none⟩ = some (.slice A8 v.l.length c8))
        (first | (refine KS.out _ ?_; (repeat first | exact hbP | refine belowDrewUR ?_ | refine Below.alloc ?_ (by first | exact Nat.le_refl _ | exact hbP.size | simp) _); done))
        (first | (refine step_app _ (by rfl) (.tmp 96) (.tmp 97) 78 (by rfl) W12.heap.size 80 k0 (.agg #[.string ⟨#[]⟩, .bool false, .int .i64 0, .slice none 0 0]) 4 56 Try.underlying78 HI2.out.1 HI2.out.2.1 HI2.out.2.2.1 HI2.out.2.2.2 rfl (by decide) (.slice (some ⟨W12.heap.size, 0, none⟩) 0 0) 0 [] (by simp [Act.eval]) (HE1.out) Av vs.length cv csV (by simp [Act.eval]) HLEN.out (HCL.out _ (belowDrewUR (below_box W12 (Obj.cells #[] 80)))) HRL1.out (by unfold maxLen; omega) (by omega) (((belowDrewUR (below_box W12 (Obj.cells #[] 80)))).size) ?_; intro v5 w9 hown5 hgrow5 hat5; have q9 := Lib.hid (Below.grown (belowDrewUR (below_box W12 (Obj.cells #[] 80))) hgrow5 (((belowDrewUR (below_box W12 (Obj.cells #[] 80)))).size) (fun j hj => ((HE1.out).lt j hj).1)); rw [Nat.zero_add, List.nil_append] at hown5; have HO5 := Lib.hid hown5; have hbP := q9.out; clear hown5 hgrow5 hat5) | (refine step_app _ (by rfl) (.tmp 96) (.tmp 97) 78 (by rfl) W12.heap.size 80 k0 (.agg #[.string ⟨#[]⟩, .bool false, .int .i64 0, .slice none 0 0]) 4 56 Try.underlying78 HI2.out.1 HI2.out.2.1 HI2.out.2.2.1 HI2.out.2.2.2 rfl (by decide) (.slice (some ⟨W12.heap.size, 0, none⟩) 0 0) 0 [] (by simp [Act.eval]) (HE2.out (Obj.cells #[.string x.name, .bool v.list, .int .i64 v.n, .slice A8 v.l.length c8] 80)) Av vs.length cv csV (by simp [Act.eval]) HLEN.out (HCL.out _ (belowDrewUR (two_boxR W12 (Obj.cells #[] 80) (Obj.cells #[.string x.name, .bool v.list, .int .i64 v.n, .slice A8 v.l.length c8] 80)))) HRL1.out (by unfold maxLen; omega) (by omega) (((belowDrewUR (two_boxR W12 (Obj.cells #[] 80) (Obj.cells #[.string x.name, .bool v.list, .int .i64 v.n, .slice A8 v.l.length c8] 80)))).size) ?_; intro v5 w9 hown5 hgrow5 hat5; have q9 := Lib.hid (Below.grown (belowDrewUR (two_boxR W12 (Obj.cells #[] 80) (Obj.cells #[.string x.name, .bool v.list, .int .i64 v.n, .slice A8 v.l.length c8] 80))) hgrow5 (((belowDrewUR (two_boxR W12 (Obj.cells #[] 80) (Obj.cells #[.string x.name, .bool v.list, .int .i64 v.n, .slice A8 v.l.length c8] 80)))).size) (fun j hj => ((HE2.out (Obj.cells #[.string x.name, .bool v.list, .int .i64 v.n, .slice A8 v.l.length c8] 80)).lt j hj).1)); rw [Nat.zero_add, List.nil_append] at hown5; have HO5 := Lib.hid hown5; have hbP := q9.out; have HS5 := Lib.hid (cellsAt_grownR (C := W12.heap.size + 1) (cellsAt_drewR <| cells_newUR (W12.alloc (Obj.cells #[] 80)) (by simp) [.string x.name, .bool v.list, .int .i64 v.n, .slice A8 v.l.length c8] _) hgrow5 (fun g hg => by simp [Value.ownBlock] at hg; omega)); clear hown5 hgrow5 hat5) | (refine step_app _ (by rfl) (.tmp 96) (.tmp 97) 78 (by rfl) W12.heap.size 80 k0 (.agg #[.string ⟨#[]⟩, .bool false, .int .i64 0, .slice none 0 0]) 4 56 Try.underlying78 HI2.out.1 HI2.out.2.1 HI2.out.2.2.1 HI2.out.2.2.2 rfl (by decide) (.slice (some ⟨W12.heap.size + 1, 0, none⟩) 0 0) 0 [] (by simp [Act.eval]) (HE3.out (Obj.cells #[.string x.name, .bool v.list, .int .i64 v.n, .slice A8 v.l.length c8] 80)) Av vs.length cv csV (by simp [Act.eval]) HLEN.out (HCL.out _ (belowDrewUR (two_boxR W12 (Obj.cells #[.string x.name, .bool v.list, .int .i64 v.n, .slice A8 v.l.length c8] 80) (Obj.cells #[] 80)))) HRL1.out (by unfold maxLen; omega) (by omega) (((belowDrewUR (two_boxR W12 (Obj.cells #[.string x.name, .bool v.list, .int .i64 v.n, .slice A8 v.l.length c8] 80) (Obj.cells #[] 80)))).size) ?_; intro v5 w9 hown5 hgrow5 hat5; have q9 := Lib.hid (Below.grown (belowDrewUR (two_boxR W12 (Obj.cells #[.string x.name, .bool v.list, .int .i64 v.n, .slice A8 v.l.length c8] 80) (Obj.cells #[] 80))) hgrow5 (((belowDrewUR (two_boxR W12 (Obj.cells #[.string x.name, .bool v.list, .int .i64 v.n, .slice A8 v.l.length c8] 80) (Obj.cells #[] 80)))).size) (fun j hj => ((HE3.out (Obj.cells #[.string x.name, .bool v.list, .int .i64 v.n, .slice A8 v.l.length c8] 80)).lt j hj).1)); rw [Nat.zero_add, List.nil_append] at hown5; have HO5 := Lib.hid hown5; have hbP := q9.out; have HS5 := Lib.hid (cellsAt_grownR (C := W12.heap.size) (cellsAt_drewR <| (cells_newUR W12 rfl [.string x.name, .bool v.list, .int .i64 v.n, .slice A8 v.l.length c8] 80).mono (below_box _ (Obj.cells #[] 80))) hgrow5 (fun g hg => by simp [Value.ownBlock] at hg; omega)); clear hown5 hgrow5 hat5) | (refine step_app _ (by rfl) (.tmp 98) (.tmp 104) 78 (by rfl) W12.heap.size 80 k0 (.agg #[.string ⟨#[]⟩, .bool false, .int .i64 0, .slice none 0 0]) 4 56 Try.underlying78 HI2.out.1 HI2.out.2.1 HI2.out.2.2.1 HI2.out.2.2.2 rfl (by decide) v5 vs.length csV (by simp [Act.eval]) (HO5.out) _ 1 1 [.string x.name, .bool v.list, .int .i64 v.n, .slice A8 v.l.length c8] (by simp [Act.eval]) rfl (HS5.out) HONE.out (by unfold maxLen; omega) (by omega) (by have := q9.out.size; first | exact this | (simp; omega)) ?_; intro v6 w10 hown6 hgrow6 hat6; obtain ⟨A20, c20, rfl, n1, n2⟩ := vars_snoc (by first | exact q9.out | exact q9.out.alloc q9.out.size _) hown6 hgrow6 (fun k hk => (HO5.out.lt k hk).1) HLL.out; have hbP := n2; have NX := Lib.hid (And.intro n1 n2); clear hown6 hgrow6 hat6 n1 n2) | (refine step_app _ (by rfl) (.tmp 98) (.tmp 104) 78 (by rfl) W12.heap.size 80 k0 (.agg #[.string ⟨#[]⟩, .bool false, .int .i64 0, .slice none 0 0]) 4 56 Try.underlying78 HI2.out.1 HI2.out.2.1 HI2.out.2.2.1 HI2.out.2.2.2 rfl (by decide) v5 vs.length csV (by simp [Act.eval]) (HO5.out.alloc _) (some ⟨w9.heap.size, 0, none⟩) 1 1 [.string x.name, .bool v.list, .int .i64 v.n, .slice A8 v.l.length c8] (by simp [Act.eval]) rfl (cells_newUR w9 rfl [.string x.name, .bool v.list, .int .i64 v.n, .slice A8 v.l.length c8] _) HONE.out (by unfold maxLen; omega) (by omega) (by have := q9.out.size; first | exact this | (simp; omega)) ?_; intro v6 w10 hown6 hgrow6 hat6; obtain ⟨A20, c20, rfl, n1, n2⟩ := vars_snoc (by first | exact q9.out | exact q9.out.alloc q9.out.size _) hown6 hgrow6 (fun k hk => (HO5.out.lt k hk).1) HLL.out; have hbP := n2; have NX := Lib.hid (And.intro n1 n2); clear hown6 hgrow6 hat6 n1 n2) | fail)
      all_goals
        go_wp2_with fail
        go_meet
        exact ⟨A20, c20, rfl, NX⟩
    case rest =>
      obtain ⟨A20, c20, rfl, hca⟩ := hcut
      obtain ⟨W20, hW20⟩ : ∃ W, W = wc := ⟨_, rfl⟩
      subst hW20
      have hb20 := hca.out.2
      have HV20 := Lib.hid hca.out.1
      have HZ20 := Lib.hid (HZ12.out.below hb20)
      have HB20 := Lib.hid (below_step HB12.out HB12.out.size hb20)
      have HL20 := Lib.hid (below_step HL12.out HL12.out.size hb20)
      have HA20 := Lib.hid (HA12.out.below hb20)
      have HC20 := Lib.hid (HC12.out.below hb20)
      have HO20 := Lib.hid (HO12.out.below hb20)
      clear hb20 hca KS HCL HE1 HE2 HE3 hbP HA12 HC12 HO12 HZ12 HB12 HL12 a0 a1 a2 a3 o0 o1 o2 o3 o4 o5 p0 p1 p2 p3 p4 p5 z0 z1 z2 z3 e0 e1 e2 e3
      have HZ12 := HZ20
      have HB12 := HB20
      have HL12 := HL20
      have HA12 := HA20
      have HC12 := HC20
      have HO12 := HO20
      clear HZ20 HB20 HL20 HA20 HC20 HO20
      obtain ⟨a0, a1, a2, a3, _⟩ := HA12.out.four
      obtain ⟨⟨o0, o1, o2, o3, o4, o5⟩, p0, p1, p2, p3, p4, p5⟩ := HO12.out.six
      obtain ⟨z0, z1, z2, z3, e0, e1, e2, e3⟩ := HZ12.out.four
      have HVN : Hid (VarsC W20 (fun k => X k ∨ k = w.heap.size ∨ k = w.heap.size + 1 ∨ k = w8.heap.size ∨ k = W9.heap.size) A20 (vs ++ [(x.name, v)])) := Lib.hid ⟨_, RowG.snoc (HRV.out.map (VarC.le (Le.below HB12.out (fun k hk e => by rcases e with e | e | e | e | e; exact e; all_goals omega)))) ⟨A8, c8, rfl, HI8.out.le (Le.below HL12.out (fun k hk e => by rcases e with e | e | e | e | e; exact .inl e; exact .inr (.inl e); exact .inr (.inr e); all_goals omega)), hc8, hv8⟩, HV20.out⟩
      have HEV := Lib.hid (HEa.out v f t HOO.out)
      have HE2 : Hid (∀ v' f' t' k2, ev apR lib d act (envL vs) y (F.toNat - 1) = .ok v' f' t' → ev apR lib d act (setV (envL vs) x.name v) z f' = .err k2 → ev apR lib (d + 1) act (envL vs) x F.toNat = .err k2) := Lib.hid (fun v' f' t' k2 h1 h2 => by
        rw [HOO.out] at h1
        cases h1
        rw [HEV.out, h2]; rfl)
      have hcl : Cl v := by
        have hc := ev_cl apR lib d act (envL vs) y (F.toNat - 1) HCLE.out
        rw [HOO.out] at hc
        exact hc
      have HRB := Lib.hid (HRQ.out v W20 (fun k => X k ∨ k = w.heap.size ∨ k = w.heap.size + 1 ∨ k = w8.heap.size ∨ k = W9.heap.size) f A20 c20 HB12.out HVN.out (fun k e => by have hsz := HB12.out.size; have hzl := HZ12.out.lt; rcases e with e | e | e | e | e; (have := HX.out k e; omega); all_goals omega) (by omega) hcl)
      obtain ⟨ou, hou⟩ : ∃ ou, ev apR lib d act (setV (envL vs) x.name v) z f = ou := ⟨_, rfl⟩
      rw [hou] at HRB
      have HOO2 := Lib.hid hou
      clear hou
      go_wp2_with fail
      refine HRB.out.mono ?_
      intro e w13 hb
      have hb13 := hb.1
      have HHB := Lib.hid hb
      obtain ⟨bl, n, A13, m13, c13, G13, Ac13, mc13, cc13, q13, rfl, hx13, hm13, hq13⟩ := retou_six hb
      have HQQ := Lib.hid hq13
      have HX13 := Lib.hid hx13
      have HL13 := Lib.hid (below_step HL12.out HL12.out.size hb13)
      have HB13 := Lib.hid (below_step HB12.out HB12.out.size hb13)
      have HA13 := Lib.hid (HA12.out.below hb13)
      have HC13 := Lib.hid (HC12.out.below hb13)
      have HO13 := Lib.hid (HO12.out.below hb13)
      have hlt13 : W9.heap.size < w13.heap.size := by have := HZ12.out.lt; have := hb13.size; omega
      have hb14 := below_box w13 (Obj.cells #[.bool bl, .int .i64 n, .slice A13 m13 c13, .int .i64 G13, .slice Ac13 mc13 cc13, .int .i64 q13] 82)
      have HQ14 := Lib.hid (bx_new w13 #[.bool bl, .int .i64 n, .slice A13 m13 c13, .int .i64 G13, .slice Ac13 mc13 cc13, .int .i64 q13] 82)
      have HL14 := Lib.hid (below_step HL13.out HL13.out.size hb14)
      have HM14 := Lib.hid hb14
      have HB14 := Lib.hid (below_step HB13.out HB13.out.size hb14)
      have HA14 := Lib.hid (HA13.out.below hb14)
      have HC14 := Lib.hid (HC13.out.below hb14)
      have HO14 := Lib.hid (HO13.out.below hb14)
      clear hb13 hb14 a0 a1 a2 a3 o0 o1 o2 o3 o4 o5 p0 p1 p2 p3 p4 p5 z0 z1 z2 z3 e0 e1 e2 e3
      go_upto_region 29 with fail
      generalize w13.alloc _ = W14 at HQ14 HL14 HM14 HB14 HA14 HC14 HO14 ⊢
      obtain ⟨a0, a1, a2, a3, _⟩ := HA14.out.four
      obtain ⟨⟨o0, o1, o2, o3, o4, o5⟩, p0, p1, p2, p3, p4, p5⟩ := HO14.out.six
      obtain ⟨⟨b0, b1, b2, b3, b4, b5⟩, r0, r1, r2, r3, r4, r5⟩ := HQ14.out.six
      obtain ⟨csA, hlA, hcA, hoA⟩ := HX8.out.cells
      obtain ⟨csB, hlB, hcB, hoB⟩ := HX13.out.cells
      have HBE := Lib.hid (belowDrawnP (below_box W14 (Obj.cells #[] 34)))
      have HE := Lib.hid (show (W14.alloc (Obj.cells #[] 34)).drew.ownsRow W14.heap.size 34 6 (.slice (some ⟨W14.heap.size, 0, none⟩) 0 0) 0 [] from own_emptyP W14)
      have HCA := Lib.hid (hcA.mono (below_step HL14.out HL14.out.size HBE.out))
      have HCB := Lib.hid (hcB.mono HM14.out)
      have HOA := Lib.hid (And.intro hoA hoB)
      clear hcA hcB hoA hoB
      have hlo := HO14.out.lt
      have hlq := HQ14.out.lt
      have u4 := below_cell (below_box W14 (Obj.cells #[] 34)) o4
      have v4 := below_cell (below_box W14 (Obj.cells #[] 34)) b4
      go_cut [14] (fun p wc => p = .pointer (some ⟨w13.heap.size, 0, none⟩) ∧ ∃ A16 c16, Hid (Cut29 W14 wc w13.heap.size (.bool bl) (.int .i64 n) (.slice A13 m13 c13) (.int .i64 G13) (.slice A16 (mc8 + mc13) c16) (.int .i64 q13) A16 (mc8 + mc13)))
      case first =>
        go_region_law (first
          | (refine step_app _ (by rfl) (.tmp 113) (.tmp 115) 32 (by rfl) W14.heap.size 34 i0 (.agg #[.int .i64 0, .slice none 0 0, .bool false, .int .i64 0, .slice none 0 0, .slice none 0 0]) 6 96 Try.underlying32 HI.out.1 HI.out.2.1 HI.out.2.2.1 HI.out.2.2.2 rfl (by decide) (.slice (some ⟨W14.heap.size, 0, none⟩) 0 0) 0 [] (by simp [Act.eval]) HE.out Ac8 mc8 cc8 csA (by simp [Act.eval]) hlA HCA.out HOA.out.1 (by unfold maxLen; omega) (by omega) HBE.out.size ?_; intro v15 w15 hown15 hgrow15 _; have q15 := Lib.hid (HBE.out.grown hgrow15 HBE.out.size (fun k hk => by cases hk; exact Nat.le_refl _)); rw [Nat.zero_add, List.nil_append] at hown15; have HO15 := Lib.hid hown15; obtain ⟨A15, c15, rfl, _, _⟩ := cells_of_own hown15 hlA; have s4 := below_cell q15.out b4; have t4 := below_cell q15.out o4; clear hown15 hgrow15)
          | (refine step_app _ (by rfl) (.tmp 116) (.tmp 118) 32 (by rfl) W14.heap.size 34 i0 (.agg #[.int .i64 0, .slice none 0 0, .bool false, .int .i64 0, .slice none 0 0, .slice none 0 0]) 6 96 Try.underlying32 HI.out.1 HI.out.2.1 HI.out.2.2.1 HI.out.2.2.2 rfl (by decide) (.slice A15 mc8 c15) mc8 csA (by simp [Act.eval]) HO15.out Ac13 mc13 cc13 csB (by simp [Act.eval]) hlB (HCB.out.mono q15.out) HOA.out.2 (by unfold maxLen; omega) (by omega) q15.out.size ?_; intro v16 w16 hown16 hgrow16 _; have q16 := Lib.hid (q15.out.grown hgrow16 q15.out.size (fun k hk => own_block_geB HO15.out k hk)); have HO16 := Lib.hid hown16; obtain ⟨A16, c16, rfl, _, hc16⟩ := cells_of_own hown16 (by rw [List.length_append, hlA, hlB]; omega); have HC16 := Lib.hid hc16; obtain ⟨⟨n0, n1, n2, n3, n4, n5⟩, l0, l1, l2, l3, l4, l5⟩ := (HQ14.out.below q16.out).six; clear hown16 hgrow16 hc16)
          | fail)
        all_goals
          go_wp2_with fail
          go_meet
          exact ⟨rfl, A16, c16, Lib.hid (cut29 HQ14.out q16.out HC16.out (by rw [List.length_append, hlA, hlB]; omega) (fun u hu => (List.mem_append.1 hu).elim (HOA.out.1 u) (HOA.out.2 u)) _)⟩
      case rest =>
        obtain ⟨rfl, A16, c16, hcut⟩ := hcut
        have HQ := Lib.hid hcut.out.1
        have HFC := Lib.hid hcut.out.2.1
        have HCX := Lib.hid hcut.out.2.2
        clear hcut HE HBE HCA HCB HOA u4 v4 hlA hlB
        clear a0 a1 a2 a3 o0 o1 o2 o3 o4 o5 p0 p1 p2 p3 p4 p5 b0 b1 b2 b3 b4 b5 r0 r1 r2 r3 r4 r5
        have HA := Lib.hid (HA14.out.fr HFC.out (by omega))
        have HC := Lib.hid (HC14.out.fr HFC.out (by omega))
        have HO := Lib.hid (HO14.out.fr HFC.out (by omega))
        have HB := Lib.hid (HFC.out.below HB14.out (fun k e => by omega))
        obtain ⟨a0, a1, a2, a3, _⟩ := HA.out.four
        obtain ⟨⟨o0, o1, o2, o3, o4, o5⟩, p0, p1, p2, p3, p4, p5⟩ := HO.out.six
        obtain ⟨⟨b0, b1, b2, b3, b4, b5⟩, r0, r1, r2, r3, r4, r5⟩ := HQ.out.six
        obtain ⟨⟨y0, y1, y2, y3, y4, y5⟩, f0, f1, f2, f3, f4, f5⟩ := HC.out.six
        cases ou with
        | err k2 =>
          obtain ⟨hq0, hq1⟩ := HQQ.out
          subst hq0
          have hne2 : (q13 != 0) = true := bne_iff_ne.2 hq1
          have HER := Lib.hid (HE2.out v f t q13 HOO.out HOO2.out)
          have HK8 := Lib.hid hq1
          clear hq1
          go_wp2_with fail
          have HF := Lib.hid (And.intro (HC.out.set6 (.bool bl) (.int .i64 n) (.slice A13 m13 c13) (.int .i64 G13) (.slice A16 (mc8 + mc13) c16) (.int .i64 q13)) (belowR6 HB.out (Nat.le_add_right w.heap.size 1) (.bool bl) (.int .i64 n) (.slice A13 m13 c13) (.int .i64 G13) (.slice A16 (mc8 + mc13) c16) (.int .i64 q13)))
          have HLE := Lib.hid (fun (Xa Xb : Nat → Prop) (h1 : ∀ k, k = w.heap.size + 1 → Xa k) (h2 : ∀ k, Xb k → Xa k) => Le.of_fr (X := Xa) (X' := Xb) (Fr.set6 wc (w.heap.size + 1) (.bool bl) (.int .i64 n) (.slice A13 m13 c13) (.int .i64 G13) (.slice A16 (mc8 + mc13) c16) (.int .i64 q13)) (fun k _ e => h1 k e) (fun k _ e => h2 k e))
          generalize World.setCell _ _ _ = WF at HF HLE ⊢
          obtain ⟨⟨g0, g1, g2, g3, g4, g5⟩, _⟩ := HF.out.1.six
          exact bodyPost_ret (v := .agg #[.bool bl, .int .i64 n, .slice A13 m13 c13, .int .i64 G13, .slice A16 (mc8 + mc13) c16, .int .i64 q13]) (by simp [results, Try.results25, go_sem, g0, g1, g2, g3, g4, g5]) rfl (by rw [HER.out]; exact ⟨HF.out.2, HK8.out, bl, n, A13, m13, c13, G13, A16, mc8 + mc13, c16, rfl, (HCX.out (fun k => X k ∨ k = w.heap.size + 1) (fun k e => by have hsz := HB14.out.size; have hzz := HC14.out.lt; rcases e with e | e; (have := HX.out k e; omega); omega)).le (HLE.out (fun k => X k ∨ k = w.heap.size + 1) X (fun k e => .inr e) (fun k e => .inl e)), by omega⟩)
        | ok b gf t2 =>
          obtain ⟨hq0, hbl, hn, hm, hG, hmm, hib, hcb, hlb⟩ := HQQ.out
          subst hq0 hbl hn hm hG
          have HIB := Lib.hid hib
          have HOK := Lib.hid (show ev apR lib (d + 1) act (envL vs) x F.toNat = (Out.ok b gf t2).pre t by rw [HEV.out, HOO2.out])
          clear hib HQQ
          go_wp2_with fail
          have HF := Lib.hid (And.intro (HC.out.set6 (.bool b.list) (.int .i64 b.n) (.slice A13 b.l.length c13) (.int .i64 gf) (.slice A16 (mc8 + mc13) c16) (.int .i64 0)) (belowR6 HB.out (Nat.le_add_right w.heap.size 1) (.bool b.list) (.int .i64 b.n) (.slice A13 b.l.length c13) (.int .i64 gf) (.slice A16 (mc8 + mc13) c16) (.int .i64 0)))
          have HLE := Lib.hid (fun (Xa Xb : Nat → Prop) (h1 : ∀ k, k = w.heap.size + 1 → Xa k) (h2 : ∀ k, Xb k → Xa k) => Le.of_fr (X := Xa) (X' := Xb) (Fr.set6 wc (w.heap.size + 1) (.bool b.list) (.int .i64 b.n) (.slice A13 b.l.length c13) (.int .i64 gf) (.slice A16 (mc8 + mc13) c16) (.int .i64 0)) (fun k _ e => h1 k e) (fun k _ e => h2 k e))
          generalize World.setCell _ _ _ = WF at HF HLE ⊢
          obtain ⟨⟨g0, g1, g2, g3, g4, g5⟩, _⟩ := HF.out.1.six
          have HCF := Lib.hid ((HCX.out (fun k => X k ∨ k = w.heap.size + 1) (fun k e => by have hsz := HB14.out.size; have hzz := HC14.out.lt; rcases e with e | e; (have := HX.out k e; omega); omega)).le (HLE.out (fun k => X k ∨ k = w.heap.size + 1) X (fun k e => .inr e) (fun k e => .inl e)))
          have HIF := Lib.hid (HIB.out.le ((Le.below HM14.out (X' := fun k => (X k ∨ k = w.heap.size ∨ k = w.heap.size + 1 ∨ k = w8.heap.size ∨ k = W9.heap.size) ∨ k = w13.heap.size) (fun k hk e => e.resolve_right (by omega))).trans ((Le.of_fr HFC.out (fun k _ e => .inr e) (X' := fun k => (X k ∨ k = w.heap.size ∨ k = w.heap.size + 1 ∨ k = w8.heap.size ∨ k = W9.heap.size) ∨ k = w13.heap.size) (fun _ _ e => e)).trans (HLE.out _ X (fun k e => .inl (.inr (.inr (.inl e)))) (fun k e => .inl (.inl e))))))
          exact bodyPost_ret (v := .agg #[.bool b.list, .int .i64 b.n, .slice A13 b.l.length c13, .int .i64 gf, .slice A16 (mc8 + mc13) c16, .int .i64 0]) (by simp [results, Try.results25, go_sem, g0, g1, g2, g3, g4, g5]) rfl (by rw [HOK.out]; exact retou_pre ⟨HF.out.2, A13, c13, A16, mc8 + mc13, c16, rfl, HCF.out, by omega, HIF.out, hcb, hlb⟩)

end Go.Proofs.Ytoankdaddgjnlaa

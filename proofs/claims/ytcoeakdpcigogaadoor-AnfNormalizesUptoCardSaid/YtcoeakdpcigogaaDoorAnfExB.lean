/-
  The visitor's choice: the walk.
-/
import Derived.Test.YtcoeakdpcigogaaDoorAnfExA
import Derived.Test.YtcoeakdpcigogaaDoorAnfEx2
namespace Go.Proofs.YtcoeakdpcigogaaDoor
open Go.ChangeShapes Go.WideShapes Go.ChangeAt Go.RowKit Go.Sort Go.Maps

variable {s : Nc} {pb po : Nat} {X0 : Nat → Prop} {b0 z n n' : Nat} {env env' : ByteArray → Option Pm} {ts ts' : List Pm} {ut ut' : Value} {bs l : List Bd} {ub ub' ui : Value} {w w' w3 : World}

set_option maxRecDepth 100000 in
set_option maxHeartbeats 8000000 in
theorem choice_any {x : Nd} (h83 : x.kind = 83) (ih : ∀ y, SizeOf.sizeOf y < SizeOf.sizeOf x → ∀ u4, NexC { s with c4 := u4 } y) (h : Ns s pb po X0 n env ts ut bs ub w) {Ak : Option Addr} {ck : Nat} (hp : Npre s x Ak env ts bs n) :
    Calls Tryd.prog 59 #[.pointer (some ⟨s.V, 0, none⟩), .agg #[.int .u8 x.kind, .int .i64 x.num, .string x.name, .slice Ak x.kids.length ck], .pointer (some ⟨pb, po, none⟩)] w (RetNx s pb po X0 n env ut bs ub (nE s.lib x env ts) (sizeT x) w) := by
  obtain ⟨yc, ya, yb, hab⟩ := three_kids hp.form h83
  obtain ⟨hbx, hx3, hx4, hx6, hsz⟩ := three_boxC w #[.pointer (some ⟨s.V, 0, none⟩)] #[.int .u8 x.kind, .int .i64 x.num, .string x.name, .slice Ak x.kids.length ck] #[.string ⟨#[]⟩, .bool false]
  have hNS : nsL x.kids (fun q => (env q).isSome) = true := by have := hp.ns; rw [nsT_eq, if_neg (by omega)] at this; exact this
  have hza : sizeT yc + sizeT ya + sizeT yb + 1 = sizeT x := by rw [sizeT_eq x, hab]; simp only [sizeTL]; omega
  have hlt2 : SizeOf.sizeOf yc < SizeOf.sizeOf x ∧ SizeOf.sizeOf ya < SizeOf.sizeOf x ∧ SizeOf.sizeOf yb < SizeOf.sizeOf x := by
    cases x with
    | mk k1 n1 s1 l1 =>
      have e : l1 = [yc, ya, yb] := hab
      subst e
      simp
      omega
  have hkc := fit_kidA (k := 0) (y := yc) (by rw [hab]; rfl) hp.fit hp.form hp.ar
  have hka := fit_kidA (k := 1) (y := ya) (by rw [hab]; rfl) hp.fit hp.form hp.ar
  have hkb := fit_kidA (k := 2) (y := yb) (by rw [hab]; rfl) hp.fit hp.form hp.ar
  have hnc := nsL_kid hNS (k := 0) (y := yc) (by rw [hab]; rfl)
  have hna := nsL_kid hNS (k := 1) (y := ya) (by rw [hab]; rfl)
  have hnb := nsL_kid hNS (k := 2) (y := yb) (by rw [hab]; rfl)
  have HIC := Lib.hid (show NexC s yc from ih yc hlt2.1 s.c4)
  have HIA := Lib.hid (ih ya hlt2.2.1)
  have HIB := Lib.hid (ih yb hlt2.2.2)
  obtain ⟨rc, hrc⟩ : ∃ rc, nE s.lib yc env ts = rc := ⟨_, rfl⟩
  obtain ⟨ra, hra⟩ : ∃ ra, nE s.lib ya env (rc.ts ++ [⟨tmpN rc.ts.length, false⟩]) = ra := ⟨_, rfl⟩
  obtain ⟨rb, hrb⟩ : ∃ rb, nE s.lib yb env (setL ra.ts rc.ts.length ra.p.list) = rb := ⟨_, rfl⟩
  have HEC := Lib.hid (show Ext ts rc.ts (3 * sizeT yc - 1) rc.bs.length from hrc ▸ nE_ext s.lib yc env ts)
  have HEA := Lib.hid (show Ext (rc.ts ++ [⟨tmpN rc.ts.length, false⟩]) ra.ts (3 * sizeT ya - 1) ra.bs.length from hra ▸ nE_ext s.lib ya env _)
  have HEB := Lib.hid (show Ext (setL ra.ts rc.ts.length ra.p.list) rb.ts (3 * sizeT yb - 1) rb.bs.length from hrb ▸ nE_ext s.lib yb env _)
  have HR := Lib.hid (nE_if h83 hab hrc hra hrb)
  have HRR := Lib.hid (And.intro hrc (And.intro hra hrb))
  have HN0 := Lib.hid h
  have HX3 := Lib.hid (show Bf s pb ut ub _ _ _ from ⟨hx3, far_new h.olds (Nat.le_refl _)⟩)
  have HX4 := Lib.hid (show Bf s pb ut ub _ _ _ from ⟨hx4, far_new h.olds (Nat.le_add_right _ 1)⟩)
  have HX6 := Lib.hid (show Bf s pb ut ub _ _ _ from ⟨hx6, far_new h.olds (Nat.le_add_right _ 2)⟩)
  have HB := Lib.hid hbx
  have HSZ := Lib.hid hsz
  have HL0 := Lib.hid h.olds
  have HP := Lib.hid hp
  have hnm := hp.fit.facts.2.2.1
  have HLEN := Lib.hid (show x.kids.length = 3 by rw [hab]; rfl)
  have HAB := Lib.hid hab
  have HZ := Lib.hid hza
  clear h hp hbx hx3 hx4 hx6 hsz ih hab hNS hrc hra hrb hza hlt2
  rw [h83] at HX4 HB HSZ HX3 HX6 ⊢
  go_enter Tryd.func59, Tryd.ntmps59
  go_upto_region 1 with fail
  generalize ((w.alloc _).alloc _).alloc _ = W at HX3 HX4 HX6 HB HSZ ⊢
  have hb9 := below_box W (Obj.cells #[.string ⟨#[]⟩, .bool false, .int .u8 0, .int .i64 0, .string ⟨#[]⟩, .slice none 0 0, .slice none 0 0, .slice none 0 0] 67)
  have HB9 := Lib.hid (And.intro hb9 (bx_new W #[.string ⟨#[]⟩, .bool false, .int .u8 0, .int .i64 0, .string ⟨#[]⟩, .slice none 0 0, .slice none 0 0, .slice none 0 0] 67))
  obtain ⟨a0, a1, a2, a3, _⟩ := HX4.out.1.four
  obtain ⟨x0, _⟩ := Bx.uno HX3.out.1
  obtain ⟨kb, ko, Aa, ca, rfl, e0, e1, e2, e3, e4, e5⟩ := kid_cells HP.out.kids (HN0.out.below HB.out).bw (k := 0) (y := yc) (by rw [HAB.out]; rfl)
  have HKC := Lib.hid e4
  simp only [Nat.zero_mul, Nat.add_zero] at e0 e1 e2 e3
  have hlt3 := HX3.out.1.lt
  have hlt4 := HX4.out.1.lt
  have hltk : kb < W.heap.size := block_lt_of_cell e0
  have r1 : (0 : Int) < x.kids.length := by have := HLEN.out; omega
  have r2 : 0 < x.kids.length := by have := HLEN.out; omega
  clear e4 e5
  have HCW := Lib.hid (fun (W' : World) (hb : Below W.heap.size W W') => HIC.out pb po _ n env ts ut bs ub W' Aa ca (HN0.out.open (below_step HB.out HB.out.size hb)) ⟨HP.out.hW, HP.out.lib, HP.out.lfit, HKC.out, hkc.1, hkc.2.1, hkc.2.2, hnc, by have := HP.out.tl; have := HZ.out; omega, by have := HP.out.bl; have := HZ.out; omega, by have := HP.out.nl; have := HZ.out; omega⟩)
  rw [HRR.out.1] at HCW
  have HCA := Lib.hid (HCW.out _ (belowDrawnP HB9.out.1))
  have HCB := Lib.hid (HCW.out _ (belowDrawnP (Below.refl _ W)))
  have hfld := field0 rc.p.name rc.p.list
  clear HCW hb9
  go_cut [7] (fun p wc => ∃ (b9 n1 : Nat) (u1 b1 : Value) (As : Option Addr), p = .pointer (some ⟨b9, 0, none⟩) ∧ Hid (Ch1 s pb po X0 n env ut bs ub rc (sizeT yc) w W wc b9 n1 u1 b1 As))
  case first =>
    go_region_law (first
      | (go_simp; go_at_call 45; refine HCA.out.mono ?_; rintro e w5 ⟨rfl, n1, u1, b1, hn1, hs5, hf5, hnu5, hnb5⟩; have HE := Lib.hid (And.intro True.intro <| ch1_a HL0.out HB.out.size (belowDrawnP HB9.out.1) (by simp) (HB9.out.2.below (belowDrawnP (Below.refl _ _))) hs5 hf5 hnu5 hnb5 hn1); have hwl := hf5.size; have HX5 := Lib.hid ((HB9.out.2.below (belowDrawnP (Below.refl _ _))).fr hf5 (far_new HL0.out HB.out.size).ng); clear hs5 hf5 hnu5 hnb5; obtain ⟨_, f0, f1, f2, f3, f4, f5, f6, f7⟩ := HX5.out.eight; have hl5 := HX5.out.lt; dsimp only)
      | (go_simp; go_at_call 45; refine HCB.out.mono ?_; rintro e w5 ⟨rfl, n1, u1, b1, hn1, hs5, hf5, hnu5, hnb5⟩; have HE := Lib.hid (And.intro (ch1_b (belowDrawnP (Below.refl _ W)) rfl hs5 hf5 hnu5 hnb5 hn1) (ch1_c (belowDrawnP (Below.refl _ W)) rfl hs5 hf5 hnu5 hnb5 hn1)); have hwl := hf5.size; clear hs5 hf5 hnu5 hnb5; dsimp only)
      | fail)
    all_goals
      go_wp2_with fail
      go_meet
      first
      | with_reducible exact ⟨_, n1, u1, b1, _, rfl, Lib.hid HE.out.2⟩
      | with_reducible exact ⟨_, n1, u1, b1, _, rfl, Lib.hid HE.out.1⟩
  case rest =>
    obtain ⟨b9, n1, u1, b1, As, rfl, hch⟩ := hcut
    obtain ⟨W6, rfl⟩ : ∃ y, y = wc := ⟨_, rfl⟩
    have HCH := Lib.hid hch.out
    have HX36 := Lib.hid (HX3.out.step HCH.out.fr id HCH.out.nu HCH.out.nb)
    obtain ⟨u4, ht, h4⟩ := HCH.out.ns.t
    have HT := Lib.hid (And.intro ht h4)
    have HFR := Lib.hid (fresh_any HP.out.hW ht (by obtain ⟨ex, e, h2⟩ := HEC.out.pre; rw [e, List.length_append]; have := HP.out.tl; have := HZ.out; omega))
    clear ht h4 hch a0 a1 a2 a3 x0 e0 e1 e2 e3 hlt3 hlt4 hltk r1 r2 HB9 HCA HCB hfld
    obtain ⟨x0, _⟩ := Bx.uno HX36.out.1
    obtain ⟨v0, v1, v2, v3, _⟩ := Bx.four HCH.out.ns.v
    have hlt3 := HX36.out.1.lt
    have hltv := HCH.out.ns.v.lt
    go_wp2_with fail
    refine HFR.out.mono ?_
    rintro e w7 ⟨rfl, u2, ht7, hf7, hn7⟩
    obtain ⟨hns9, hcx9, hfr9, hnu9, hnb9⟩ := chx_start HCH.out HSZ.out HX3.out HX4.out HX6.out (HCH.out.ns.tmp HT.out.1 ht7 HT.out.2 hf7 hn7) hf7 hn7 rc.ts.length
    have HNS := Lib.hid hns9
    have HCX := Lib.hid hcx9
    have HFR9 := Lib.hid (And.intro hfr9 (And.intro hnu9 (And.intro hnb9 HCH.out.nn)))
    clear ht7 hf7 hn7 hns9 hcx9 hfr9 hnu9 hnb9 HFR HT HCH HX36 HX3 HX4 HX6 x0 v0 v1 v2 v3 hlt3 hltv
    go_upto_region 5 with fail
    generalize (w7.alloc _).alloc _ = W9 at HNS HCX HFR9 ⊢
    obtain ⟨kb1, ko1, Aa1, ca1, ek, e0, e1, e2, e3, e4, e5⟩ := kid_cells HP.out.kids HNS.out.bw (k := 1) (y := ya) (by rw [HAB.out]; rfl)
    cases ek
    have HBA := Lib.hid (branch_any HIA.out HNS.out ca1 ⟨HP.out.hW, HP.out.lib, HP.out.lfit, e4, hka.1, hka.2.1, hka.2.2, hna, by have := HP.out.tl; have := HZ.out; obtain ⟨ex, e, h2⟩ := HEC.out.pre; rw [e]; simp only [List.length_append, List.length_singleton]; omega, by have := HP.out.bl; have := HZ.out; show 0 + _ ≤ _; omega, by have := HP.out.nl; have := HZ.out; have := HFR9.out.2.2.2; omega⟩ (i := rc.ts.length) (by simp) (by simp) HCX.out.v.1 HCX.out.i.1 HCX.out.t.1 HCX.out.xt HCX.out.v.2 HCX.out.i.2 HCX.out.t.2)
    rw [HRR.out.2.1] at HBA
    obtain ⟨a0, a1, a2, a3, _⟩ := HCX.out.nd.1.four
    have hlt4 := HCX.out.nd.1.lt
    have hltk := block_lt_of_cell e0
    have r1 : (1 : Int) < x.kids.length := by have := HLEN.out; omega
    have r2 : 1 < x.kids.length := by have := HLEN.out; omega
    simp only [Nat.one_mul] at e0 e1 e2 e3
    clear e4 e5
    go_wp2_with fail
    refine HBA.out.mono ?_
    rintro e w10 ⟨A1, c1, n2, u3, rfl, n2', hs, hbd, ht, hf, hnu⟩
    obtain ⟨hs', hf', hn', hle', hlp'⟩ := br_put HSZ.out HCX.out HFR9.out.1 HFR9.out.2.1 hs hf hnu ht 6 (.slice A1 (ra.bs.length + 1) c1)
    have hcb := HCX.out.branch hf hnu ht
    obtain ⟨_, f0, f1, f2, f3, f4, f5, f6, f7⟩ := hcb.b.1.eight
    have hlt9 := hcb.b.1.lt
    have HNS1 := Lib.hid hs'
    have HCX1 := Lib.hid (hcb.put6 (.slice A1 (ra.bs.length + 1) c1))
    have HFR1 := Lib.hid (And.intro hf' hn')
    have HN2 := Lib.hid n2'
    have HBD1 := Lib.hid (hbd.le hlp')
    clear hs' hf' hn' hle' hlp' hcb hs hbd ht hf hnu n2' a0 a1 a2 a3 e0 e1 e2 e3 hlt4 hltk r1 r2 HBA HNS HCX
    go_upto_region 6 with fail
    clear f0 f1 f2 f3 f4 f5 f6 f7 hlt9
    generalize World.setCell _ _ _ = W11 at HNS1 HCX1 HFR1 HBD1 ⊢
    obtain ⟨kb2, ko2, Aa2, ca2, ek, e0, e1, e2, e3, e4, e5⟩ := kid_cells HP.out.kids HNS1.out.bw (k := 2) (y := yb) (by rw [HAB.out]; rfl)
    cases ek
    have HBA := Lib.hid (branch_any HIB.out HNS1.out ca2 ⟨HP.out.hW, HP.out.lib, HP.out.lfit, e4, hkb.1, hkb.2.1, hkb.2.2, hnb, by have := HP.out.tl; have := HZ.out; obtain ⟨ex, e, h2⟩ := HEC.out.pre; obtain ⟨ex', e', h2'⟩ := HEA.out.pre; rw [setL_len, e', e]; simp only [List.length_append, List.length_singleton]; omega, by have := HP.out.bl; have := HZ.out; show 0 + _ ≤ _; omega, by have := HP.out.nl; have := HZ.out; have := HFR9.out.2.2.2; have := HN2.out; omega⟩ (i := rc.ts.length) (by obtain ⟨ex', e', h2'⟩ := HEA.out.pre; rw [setL_len, e']; simp only [List.length_append, List.length_singleton]; omega) (by unfold setL; simp) HCX1.out.v.1 HCX1.out.i.1 HCX1.out.t.1 HCX1.out.xt HCX1.out.v.2 HCX1.out.i.2 HCX1.out.t.2)
    rw [HRR.out.2.2] at HBA
    obtain ⟨a0, a1, a2, a3, _⟩ := HCX1.out.nd.1.four
    have hlt4 := HCX1.out.nd.1.lt
    have hltk := block_lt_of_cell e0
    have r1 : (2 : Int) < x.kids.length := by have := HLEN.out; omega
    have r2 : 2 < x.kids.length := by have := HLEN.out; omega
    clear e4 e5
    go_wp2_with fail
    refine HBA.out.mono ?_
    rintro e w12 ⟨A2, c2, n3, u4, rfl, n3', hs, hbd, ht, hf, hnu⟩
    obtain ⟨hs', hf', hn', hle', hlp'⟩ := br_put HSZ.out HCX1.out HFR1.out.1 HFR1.out.2 hs hf hnu ht 7 (.slice A2 (rb.bs.length + 1) c2)
    have hcb := HCX1.out.branch hf hnu ht
    obtain ⟨_, f0, f1, f2, f3, f4, f5, f6, f7⟩ := hcb.b.1.eight
    have hlt9 := hcb.b.1.lt
    have HNS2 := Lib.hid hs'
    have HCX2 := Lib.hid (hcb.put7 (.slice A2 (rb.bs.length + 1) c2))
    have HFR2 := Lib.hid (And.intro hf' hn')
    have HN3 := Lib.hid n3'
    have HBD2 := Lib.hid (And.intro (HBD1.out.le hle') (hbd.le hlp'))
    have hi' : rc.ts.length < rb.ts.length := by obtain ⟨ex, e, h2⟩ := HEB.out.pre; obtain ⟨ex', e', h2'⟩ := HEA.out.pre; rw [e, List.length_append, setL_len, e']; simp only [List.length_append, List.length_singleton]; omega
    clear hs' hf' hn' hle' hlp' hcb hs hbd ht hf hnu n3' a0 a1 a2 a3 e0 e1 e2 e3 hlt4 hltk r1 r2 HBA HNS1 HCX1 HBD1 HFR1
    go_upto_region 7 with fail
    clear f0 f1 f2 f3 f4 f5 f6 f7 hlt9
    generalize World.setCell _ _ _ = W13 at HNS2 HCX2 HFR2 HBD2 ⊢
    obtain ⟨x0, x1, _⟩ := HCX2.out.t.1.two
    obtain ⟨⟨y0, y1, y2, y3, y4, y5, y6, y7⟩, f0, f1, f2, f3, f4, f5, f6, f7⟩ := HCX2.out.b.1.eight
    have hlt5 := HCX2.out.t.1.lt
    have hlt9 := HCX2.out.b.1.lt
    go_cut [7] (fun p wc => p = .pointer (some ⟨b9, 0, none⟩) ∧ wc = ((W13.setCell ⟨b9, 0, none⟩ (.string (tmpN rc.ts.length))).setCell ⟨b9, 1, none⟩ (.bool rb.p.list)).drew)
    case first =>
      go_region
      all_goals
        go_wp2_with fail
        go_meet
        first
        | exact ⟨rfl, rfl⟩
        | exact ⟨rfl, congrArg World.drew (setCell_off W13 b9 (i := 1) (j := 0) _ _ (by decide))⟩
    obtain ⟨rfl, rfl⟩ := hcut
    obtain ⟨hns', hfr', hle'⟩ := br_two HSZ.out HCX2.out HFR2.out.1 HNS2.out (.string (tmpN rc.ts.length)) (.bool rb.p.list)
    have HCX3 := Lib.hid ((HCX2.out.put01 (.string (tmpN rc.ts.length)) (.bool rb.p.list)).below (belowDrawnP (Below.refl _ _)))
    have HM3 := Lib.hid hns'.drew
    have HBD3 := Lib.hid (And.intro ((HBD2.out.1.le hle').le (drew_le _ _)) ((HBD2.out.2.le hle').le (drew_le _ _)))
    have HFR3 := Lib.hid (And.intro (hfr'.trans (drew_fr _ (Ng s pb ut ub)) (fun _ _ e => e)) HFR2.out.2)
    clear hns' hfr' hle' HNS2 HCX2 HBD2 HFR2 x0 x1 y0 y1 y2 y3 y4 y5 y6 y7 f0 f1 f2 f3 f4 f5 f6 f7 hlt5 hlt9
    generalize World.drew _ = W3 at HCX3 HM3 HBD3 HFR3 ⊢
    obtain ⟨cs, ho, hr⟩ := HM3.out.own
    obtain ⟨Ab, cb, rfl, hcb, hqq⟩ := own_formB ho
    clear hqq
    have HO := Lib.hid ho
    have HRW := Lib.hid hr
    have hpc := HM3.out.c
    have hpf := HM3.out.f
    have hpl : pb < W3.heap.size := block_lt_of_cell hpc
    obtain ⟨⟨y0, y1, y2, y3, y4, y5, y6, y7⟩, f0, f1, f2, f3, f4, f5, f6, f7⟩ := HCX3.out.b.1.eight
    have hlt5 := HCX3.out.b.1.lt
    obtain ⟨i0, hi0, hz0, hz1, hz2⟩ := info_parts info_bd
    have HPU := Lib.hid HM3.out.pu
    have HUB := Lib.hid (show (Value.slice Ab (bs ++ rc.bs).length cb).ownBlock ≠ some b9 from HCX3.out.b.2.2.2.2.2.2.1)
    have rk1 : (0 : Int) ≤ (bs ++ rc.bs).length := by omega
    have rk2 : ((bs ++ rc.bs).length : Int) < (bs ++ rc.bs).length + 1 := by omega
    have hbl : (bs ++ rc.bs).length < 100000 := by have := HP.out.bl; have := HZ.out; have := HEC.out.bs; rw [List.length_append]; omega
    have hlb : s.B ≤ W3.heap.size := by obtain ⟨_, ht, _⟩ := HM3.out.t; exact ht.bs
    clear ho hr
    generalize hbx : bs ++ rc.bs = bx at HM3 HO HRW HUB HPU HCX3 HBD3 HFR9 rk1 rk2 hbl hpc ⊢
    go_upto_region 8 with fail
    go_region_law (first
      | (refine step_app _ (by rfl) (.tmp 49) (.tmp 52) 37 (by rfl) s.B 67 i0 (.agg #[.string ⟨#[]⟩, .bool false, .int .u8 0, .int .i64 0, .string ⟨#[]⟩, .slice none 0 0, .slice none 0 0, .slice none 0 0]) 8 120 Tryd.underlying37 hi0 hz0 hz1 hz2 rfl (by decide) (.slice Ab bx.length cb) bx.length cs (by first | (simp [Act.eval]; done) | (simp [Act.eval, Act.put]; done) | (simp [Act.eval, go_sem]; done)) (show (W3.alloc (Obj.cells #[.string ⟨#[]⟩, .bool false, .int .u8 0, .int .i64 0, .string ⟨#[]⟩, .slice none 0 0, .slice none 0 0, .slice none 0 0] 67)).drew.ownsRow s.B 67 8 (.slice Ab bx.length cb) bx.length cs from HO.out.alloc _) (some ⟨W3.heap.size, 0, none⟩) 1 1 [.string ⟨#[]⟩, .bool false, .int .u8 0, .int .i64 0, .string ⟨#[]⟩, .slice none 0 0, .slice none 0 0, .slice none 0 0] (by first | (simp [Act.eval]; done) | (simp [Act.eval, Act.put]; done) | (simp [Act.eval, go_sem]; done)) rfl (show CellsAt (W3.alloc (Obj.cells #[.string ⟨#[]⟩, .bool false, .int .u8 0, .int .i64 0, .string ⟨#[]⟩, .slice none 0 0, .slice none 0 0, .slice none 0 0] 67)).drew _ _ from cells_litC W3 _ _) (fun u hu => by simp at hu; rcases hu with rfl | rfl | rfl | rfl | rfl | rfl | rfl | rfl <;> rfl) (by unfold maxLen; omega) (by omega) (by simp; omega) ?_; intro v' w4 hown' hgrow hat; obtain ⟨g, cap, rfl, hgB, hgl⟩ := hown'.form (by omega); have HFR4 := Lib.hid ((Fr.of_below (belowDrawnP (below_box W3 _)) (fun k => some k = (Value.slice Ab bx.length cb).ownBlock)).trans (Fr.of_grown hgrow) (fun _ _ e => e)); have HX54 := Lib.hid (HCX3.out.b.1.fr HFR4.out (fun e => HUB.out e.symm)); have HOW4 := Lib.hid hown'; have HNW4 := Lib.hid (nwb_of_hat hat); have hgp : g ≠ pb := (fun e => by rcases HNW4.out g rfl with q | q; exact HPU.out (e ▸ q); omega); have hpg : pb ≠ g := hgp.symm; replace hpc := HFR4.out.cell hpc (fun e => HPU.out e.symm); replace hpf := frozen_of_block (HFR4.out.block _ hpl (fun e => HPU.out e.symm)) hpf; obtain ⟨⟨z0, z1, z2, z3, z4, z5, z6, z7⟩, k0, k1, k2, k3, k4, k5, k6, k7⟩ := own_last8 hown' HO.out.1; clear hown' hgrow hat; obtain ⟨⟨y0, y1, y2, y3, y4, y5, y6, y7⟩, f0, f1, f2, f3, f4, f5, f6, f7⟩ := HX54.out.eight)
      | fail)
    all_goals
      try rw [set8_swap w4 ⟨pb, po, none⟩ _ g (bx.length * 8) hpg]
      have HPW := Lib.hid (own_put8 HOW4.out HO.out.1 (.string (tmpN rc.ts.length)) (.bool rb.p.list) (.int .u8 83) (.int .i64 0) (.string ⟨#[]⟩) (.slice As 1 1) (.slice A1 (ra.bs.length + 1) c1) (.slice A2 (rb.bs.length + 1) c2))
      have HFW := Lib.hid (HFR4.out.trans (Fr.set8 w4 g (bx.length * 8) (.string (tmpN rc.ts.length)) (.bool rb.p.list) (.int .u8 83) (.int .i64 0) (.string ⟨#[]⟩) (.slice As 1 1) (.slice A1 (ra.bs.length + 1) c1) (.slice A2 (rb.bs.length + 1) c2)) (fun k hk e => by rcases HNW4.out g rfl with q | q; rw [e]; exact q.symm; omega))
      clear z0 z1 z2 z3 z4 z5 z6 z7 k0 k1 k2 k3 k4 k5 k6 k7 y0 y1 y2 y3 y4 y5 y6 y7 f0 f1 f2 f3 f4 f5 f6 f7 hpc hpf HOW4 HX54
      have HBD := Lib.hid (HM3.out.bound (t := Bd.mk (tmpN rc.ts.length) rb.p.list 83 0 eS [rc.p.name] (ra.bs ++ [Bd.mk (tmpN rc.ts.length) ra.p.list 81 0 eS [ra.p.name] [] []]) (rb.bs ++ [Bd.mk (tmpN rc.ts.length) rb.p.list 81 0 eS [rb.p.name] [] []])) HO.out HRW.out ⟨As, 1, A1, c1, A2, c2, by simp only [Bd.to, Bd.list, Bd.op, Bd.num, Bd.name, Bd.args, Bd.thn, Bd.els, List.length_append, List.length_singleton]; rfl, HCX3.out.sx, HBD3.out.1, HBD3.out.2⟩ HFW.out HPW.out HNW4.out)
      generalize World.setCell _ _ _ = W5 at HBD ⊢
      have HEND := Lib.hid (ch_end (X0 := X0) HSZ.out rfl (fun k e => .inl (.inl e)) HCX3.out HFR3.out.1 HB.out HFR3.out.2 HFR9.out.2.2.1 HBD.out.1 HBD.out.2 HNW4.out)
      obtain ⟨x0, x1, _⟩ := HEND.out.2.1.1.two
      obtain ⟨y0, y1, f0, f1⟩ := HEND.out.1.1.two
      have hlt8 := HEND.out.1.1.lt
      have hlt9 := HEND.out.2.1.1.lt
      have HBF := Lib.hid (HEND.out.1.1.set2 (.string (tmpN rc.ts.length)) (.bool rb.p.list))
      clear HBD HFW HPW HNW4 HFR4 HUB HPU HRW HO HBD3 HM3 HCX3
      go_wp2_with fail
      generalize World.setCell _ _ _ = WF at HEND HBF ⊢
      obtain ⟨g0, g1, _⟩ := HBF.out.two
      exact bodyPost_ret (v := .agg #[.string (tmpN rc.ts.length), .bool rb.p.list]) (by simp [results, Tryd.results59, go_sem, g0, g1]) rfl (by rw [HR.out]; exact ⟨rfl, n3, u4, _, by have := HN3.out; have := HN2.out; have := HFR9.out.2.2.2; have := HZ.out; omega, by rw [← List.append_assoc, hbx]; exact HEND.out.2.2.1.1, HEND.out.2.2.1.2, HEND.out.2.2.2⟩)

end Go.Proofs.YtcoeakdpcigogaaDoor

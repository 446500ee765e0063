/-
  The contract of the reference's Decode.
-/
import Derived.Test.YtodiijoeeeeicaaDoorAsmRBn
import Derived.Test.YtodiijoeeeeicaaDoorAsmDecA
import Derived.Test.YtodiijoeeeeicaaDoorAsmRFm
namespace Go.Proofs.YtodiijoeeeeicaaDoor
open Go.ChangeShapes Go.WideShapes Go.ChangeAt Go.RowKit Go.Sort

theorem setO_mk {op : Nat} {vs : List Int} {j : Nat} (hj : vs.length = j) (h4 : j < 4) (v : Int) : setO (mkI op vs) j v = mkI op (vs ++ [v]) := by
  subst hj
  match vs, h4 with
  | [], _ => rfl
  | [_], _ => rfl
  | [_, _], _ => rfl
  | [_, _, _], _ => rfl
theorem bys_nil {w : World} {A : Option Addr} {l : List UInt8} {n : Nat} (h : l.length ≤ n) : BysAt w A (l.drop n) := fun k c hk => by
  rw [List.drop_of_length_le h] at hk; simp at hk
def lenOf : Value → Nat | .slice _ n _ => n | _ => 0
/-- Where the inner loop stands. -/
def RdQ (w wo wr : World) (op : Nat) (cs b : List UInt8) (j : Nat) (vs : List Int) (y : Ins) (r : List UInt8) (A : Option Addr) (c : Nat) : Prop :=
  r.length ≤ c ∧ BysAt w A r ∧ Bx wr wo.heap.size #[.int .u8 y.op, .int .i64 y.a, .int .i64 y.b, .int .i64 y.c, .int .i64 y.d] ∧ Below wo.heap.size wo wr ∧ y = mkI op vs ∧ rdB cs b = (rdB (cs.drop j) r).map fun p => (vs ++ p.1, p.2)
set_option maxRecDepth 100000 in
set_option maxHeartbeats 4000000 in
theorem rdecode_any (l : List UInt8) (A : Option Addr) (cap : Nat) (w : World) (hL : BysAt w A l) (hcap : l.length ≤ cap) :
    Calls Tryd.prog 26 #[.slice A l.length cap] w (RetDA l w) := by
  by_cases h4 : l.length < 4
  · have HR := Lib.hid (show RetDA l w (.returned (.tuple #[.slice none 0 0, .int .i64 4])) w by unfold RetDA decA; rw [if_pos h4]; exact ⟨Below.refl _ _, rfl⟩)
    have h4' : (l.length : Int) < 4 := by omega
    clear hL
    go_enter Tryd.func26, Tryd.ntmps26
    go_wp2_with fail
    exact bodyPost_ret (v := .tuple #[.slice none 0 0, .int .i64 4]) (by simp [results, Tryd.results26]) rfl HR.out
  · obtain ⟨b0, o0, rfl, hx0⟩ := hL.at_ (k := 0) (by omega)
    clear hx0
    have HC := Lib.hid (rtake_any w l (some ⟨b0, o0, none⟩) cap 4 w hL (Below.refl _ _) (by omega) (by omega) (by omega))
    have HL4 := Lib.hid (hL.drop (n := 4))
    have hg := getV_small (l := l.take 4) (by rw [List.length_take]; omega)
    have HD := Lib.hid (show decA l = if 65536 < valB (l.take 4) then .err 5 else decN (valB (l.take 4)) (l.drop 4) [] by unfold decA; rw [if_neg h4])
    have hdl : (l.drop 4).length = l.length - 4 := List.length_drop
    rw [hg.1] at HC
    obtain ⟨_, hg1, hg2⟩ := hg
    generalize valB (l.take 4) = n at *
    obtain ⟨i0, hi0, hz0, hz1, hz2⟩ := info_parts info_ins
    have HI := Lib.hid (And.intro hi0 (And.intro hz0 (And.intro hz1 hz2)))
    clear hi0 hz0 hz1 hz2 hL
    have s1 : (4 : Int) ≤ l.length := by omega
    have s2 : (l.length : Int) ≤ cap := by omega
    have s3 : ¬ (l.length : Int) < 4 := by omega
    have s4 : 4 ≤ l.length := by omega
    go_enter Tryd.func26, Tryd.ntmps26
    go_wp2_with fail
    refine HC.out.mono ?_
    rintro e w1 ⟨rfl, hb1⟩
    have HB1 := Lib.hid hb1
    clear hb1
    go_upto_region 4 with fail
    go_cut [0] (fun v wc => ∃ A1, v = .slice A1 (l.length - 4) (cap - 4) ∧ Hid (BysAt w A1 (l.drop 4)) ∧ Hid (Below w.heap.size w wc))
    case first =>
      by_cases hc4 : cap = 4
      · subst hc4
        go_wp2_with fail
        go_meet
        exact ⟨some ⟨b0, o0, none⟩, by rw [show l.length - 4 = 0 by omega], Lib.hid (bys_nil (by omega)), HB1⟩
      · have hc5 : 4 < cap := by omega
        go_wp2_with fail
        go_meet
        exact ⟨_, rfl, HL4, HB1⟩
    case rest =>
      obtain ⟨A1, rfl, hB1, hb1⟩ := hcut
      clear HB1 HC HL4 s1 s2 s3 s4
      by_cases hn : 65536 < n
      · have hn' : (65536 : Int) < n := by omega
        have HX := Lib.hid (show RetDA l w (.returned (.tuple #[.slice none 0 0, .int .i64 5])) wc by unfold RetDA; rw [HD.out, if_pos hn]; exact ⟨hb1.out, rfl⟩)
        clear hn HD hg1 hg2
        go_upto_region 5 with fail
        revert hn'
        generalize (65536 : Int) = mx
        intro hn'
        go_wp2_with fail
        exact bodyPost_ret (v := .tuple #[.slice none 0 0, .int .i64 5]) (by simp [results, Tryd.results26]) rfl HX.out
      · rw [if_neg hn] at HD
        have H0 := Lib.hid (show DeR w wc (.slice none 0 0) (l.drop 4) n 0 (l.drop 4) A1 (cap - 4) [] from ⟨by rw [hdl]; omega, hB1.out, ⟨hb1.out, World.ownsRow_nil _ _ _ _⟩, rfl, fun k x h => by simp at h, rfl⟩)
        have hn' : (n : Int) ≤ 65536 := by omega
        have HN := Lib.hid (show n ≤ 65536 by omega)
        rw [← hdl]
        generalize l.drop 4 = b4 at *
        clear hb1 hB1 hn hg1 hg2 hdl h4
        go_upto_region 5 with fail
        revert hn'
        generalize (65536 : Int) = mx
        intro hn'
        go_wp2_with fail
        clear hn'
        go_loopw [0, 5] (fun v u wr => ∃ (k : Nat) (r : List UInt8) (Ar : Option Addr) (cr : Nat) (acc : List Ins), k ≤ n ∧ v = .slice Ar r.length cr ∧ Hid (DeR w wr u b4 n k r Ar cr acc)) (fun _ u _ => n - lenOf u)
        case atStart => exact ⟨0, b4, A1, cap - 4, [], by omega, rfl, H0⟩
        case round =>
          obtain ⟨k, r, Ar, cr, acc, hk, rfl, hd⟩ := hrel
          obtain ⟨wo, rfl⟩ : ∃ wo, wo = wr := ⟨_, rfl⟩
          obtain ⟨Aa, ca, rfl, _⟩ := code_of_own hd.out.2.2.1.2
          have hlen := hd.out.2.2.2.1
          have hWI := Lib.hid hd.out.2.2.1
          by_cases hin : k < n
          · have hst : decN n b4 [] = (match decI r with | .err e => .err e | .ok x r' => decN (n - (k + 1)) r' (acc ++ [x])) := by
              rw [hd.out.2.2.2.2.2, show n - k = (n - (k + 1)) + 1 by omega, decN_succ]
              cases decI r <;> rfl
            have HY := Lib.hid hd.out.2.2.2.2.1
            have hkn : (acc.length : Int) < n := by omega
            have hrc := hd.out.1
            have HBY := Lib.hid hd.out.2.1
            clear hd
            cases r with
            | nil =>
              have HR := Lib.hid (show RetDA l w (.returned (.tuple #[.slice none 0 0, .int .i64 4])) wo from by unfold RetDA; rw [HD.out, hst]; exact ⟨hWI.out.1, rfl⟩)
              clear hst
              go_wp2_with fail
              exact bodyPost_ret (v := .tuple #[.slice none 0 0, .int .i64 4]) (by simp [results, Tryd.results26]) rfl HR.out
            | cons op b =>
              have hop := op.toNat_lt
              obtain ⟨bb, ob, rfl, c0⟩ := (HBY.out.mono hWI.out.1).at_ (k := 0) (by simp)
              rw [Nat.add_zero, List.getElem_cons_zero] at c0
              have hlt := block_lt_of_cell c0
              have t1 : (1 : Int) ≤ (b.length : Int) + 1 := by omega
              have t2 : ¬ (b.length : Int) + 1 < 1 := by omega
              have HX0 := Lib.hid (bx_new wo #[.int .u8 op.toNat, .int .i64 0, .int .i64 0, .int .i64 0, .int .i64 0] 43)
              have HB0 := Lib.hid (below_box wo (Obj.cells #[.int .u8 op.toNat, .int .i64 0, .int .i64 0, .int .i64 0, .int .i64 0] 43))
              have hb3 : b.length + 1 ≤ cr := by simpa using hrc
              go_upto_region 12 with fail
              generalize wo.alloc _ = W6 at HX0 HB0 ⊢
              have d0 := below_cell HB0.out c0
              have hlt6 := block_lt_of_cell d0
              have HCL := Lib.hid (rclasses_any op.toNat (by omega) W6)
              clear c0 hlt
              go_wp2_with fail
              refine HCL.out.mono ?_
              rintro e w7 ⟨rfl, hb7⟩
              have HX7 := Lib.hid (HX0.out.below hb7)
              have HB7 := Lib.hid (below_step HB0.out HB0.out.size hb7)
              have hszc := bs_size (clsL op.toNat)
              have hcl4 := (clsL_len op.toNat).2
              clear HX0 HB0 HCL d0 hlt6 hb7
              by_cases h35 : op.toNat < 35
              rotate_left
              · have HR := Lib.hid (show RetDA l w (.returned (.tuple #[.slice none 0 0, .int .i64 3])) w7 from by
                  unfold RetDA
                  rw [HD.out, hst, show decI (op :: b) = .err 3 from by unfold decI; simp only; rw [if_pos (by omega)]]
                  exact ⟨below_step hWI.out.1 hWI.out.1.size HB7.out, rfl⟩)
                clear hst
                have hdc : decide (op.toNat < 35) = false := by simp [h35]
                rw [hdc]
                go_wp2_with fail
                exact bodyPost_ret (v := .tuple #[.slice none 0 0, .int .i64 3]) (by simp [results, Tryd.results26]) rfl HR.out
              · have hdc : decide (op.toNat < 35) = true := by simp [h35]
                rw [hdc]
                have hrd0 : rdB (clsL op.toNat) b = (rdB ((clsL op.toNat).drop 0) b).map fun p => ([] ++ p.1, p.2) := by
                  rw [List.drop_zero]
                  cases rdB (clsL op.toNat) b with
                  | none => rfl
                  | some p => rfl
                have HQ0 : Hid (∀ A1, BysAt w A1 b → RdQ w wo w7 op.toNat (clsL op.toNat) b 0 [] (mkI op.toNat []) b A1 (cr - 1)) := Lib.hid (fun A1 hA => ⟨by omega, hA, HX7.out, HB7.out, rfl, hrd0⟩)
                clear hrd0
                go_upto_region 15 with fail
                go_cut [0] from 20 to 71 (fun v wc => ∃ A1, v = .slice A1 b.length (cr - 1) ∧ Hid (RdQ w wo wc op.toNat (clsL op.toNat) b 0 [] (mkI op.toNat []) b A1 (cr - 1)))
                case first =>
                  by_cases hc1 : cr = 1
                  · subst hc1
                    have hb0 : b = [] := List.length_eq_zero_iff.1 (by omega)
                    subst hb0
                    go_wp2_with fail
                    go_meet
                    exact ⟨_, rfl, Lib.hid (HQ0.out _ (bys_nil (l := []) (n := 0) (by simp)))⟩
                  · have hc5 : 1 < cr := by omega
                    go_wp2_with fail
                    go_meet
                    exact ⟨_, rfl, Lib.hid (HQ0.out _ (HBY.out.drop (n := 1)))⟩
                case rest =>
                  obtain ⟨A1, rfl, hq1⟩ := hcut
                  clear HQ0 HBY hdc HX7 HB7 hb3 hrc t1 t2
                  have hq2 : Hid (∃ y, RdQ w wo wc op.toNat (clsL op.toNat) b 0 [] y b A1 (cr - 1)) := Lib.hid ⟨_, hq1.out⟩
                  clear hq1
                  obtain ⟨y0, hq1⟩ := hq2.out
                  have HQ1 := Lib.hid hq1
                  clear hq1 hq2
                  go_wp2_with fail
                  go_loopw [0, 9] (fun v i wr => ∃ (j : Nat) (vs : List Int) (y : Ins) (r : List UInt8) (Ar : Option Addr) (cr : Nat), j ≤ (clsL op.toNat).length ∧ vs.length = j ∧ i = .int .i64 j ∧ v = .slice Ar r.length cr ∧ Hid (RdQ w wo wr op.toNat (clsL op.toNat) b j vs y r Ar cr)) (fun _ i _ => (clsL op.toNat).length - (intOf i).toNat)
                  case atStart => exact ⟨0, [], y0, b, A1, cr - 1, by omega, rfl, rfl, rfl, HQ1⟩
                  case round =>
                    obtain ⟨j, vs, y, r, A2, c2, hj, hvs, rfl, rfl, hq⟩ := hrel
                    have HXq := Lib.hid hq.out.2.2.1
                    have HBq := Lib.hid hq.out.2.2.2.1
                    have hym := hq.out.2.2.2.2.1
                    have hrd := hq.out.2.2.2.2.2
                    have hlc := hq.out.1
                    have HYq := Lib.hid hq.out.2.1
                    clear hq
                    by_cases hjn : j < (clsL op.toNat).length
                    · have hsix := cls_at hjn
                      have hbg : (bs (clsL op.toNat))[j]'(by omega) = (clsL op.toNat)[j]'hjn := by rw [bs_get, List.getD_eq_getElem?_getD, List.getElem?_eq_getElem hjn]; rfl
                      have hw1 : 1 ≤ wid ((clsL op.toNat)[j]'hjn) ∧ wid ((clsL op.toNat)[j]'hjn) ≤ 8 := by rcases wid_cases ((clsL op.toNat)[j]'hjn) with e | e | e <;> omega
                      have s1 : (0 : Int) ≤ j := by omega
                      have s3 : (j : Int) < (bs (clsL op.toNat)).size := by omega
                      have hcd : (clsL op.toNat).drop j = (clsL op.toNat)[j]'hjn :: (clsL op.toNat).drop (j + 1) := List.drop_eq_getElem_cons hjn
                      rw [hcd] at hrd
                      have HWD := Lib.hid (rwidth_any ((clsL op.toNat)[j]'hjn) hsix wr)
                      generalize hwc : wid ((clsL op.toNat)[j]'hjn) = wc1 at *
                      by_cases hs : r.length < wc1
                      · have HR := Lib.hid (show RetDA l w (.returned (.tuple #[.slice none 0 0, .int .i64 4])) wr from by
                          unfold RetDA
                          rw [HD.out, hst, show decI (op :: b) = .err 4 from by
                            unfold decI; simp only; rw [if_neg (by omega), hrd, rdB, hwc, if_pos hs]; rfl]
                          exact ⟨below_step hWI.out.1 hWI.out.1.size HBq.out, rfl⟩)
                        clear hst hrd hcd hwc
                        have hs' : (r.length : Int) < wc1 := by omega
                        go_upto_region 19 with fail
                        go_wp2_with (go_at_call 41; refine HWD.out.mono ?_; rintro e w7 ⟨rfl, rfl⟩)
                        exact bodyPost_ret (v := .tuple #[.slice none 0 0, .int .i64 4]) (by simp [results, Tryd.results26]) rfl HR.out
                      · have hs' : ¬ (r.length : Int) < wc1 := by omega
                        obtain ⟨b2, o2, rfl, hx0⟩ := HYq.out.at_ (k := 0) (by omega)
                        clear hx0
                        have HTK := Lib.hid (rtake_any w r (some ⟨b2, o2, none⟩) c2 wc1 wr.drew HYq.out (belowDrawn (below_step hWI.out.1 hWI.out.1.size HBq.out)) hw1.2 hw1.1 (by omega))
                        have HRS := Lib.hid (show rdB (clsL op.toNat) b = (rdB ((clsL op.toNat).drop (j + 1)) (r.drop wc1)).map fun p => ((vs ++ [getV (r.take wc1)]) ++ p.1, p.2) by
                          rw [hrd, rdB_step (by rw [hwc]; exact hs), hwc]
                          cases rdB ((clsL op.toNat).drop (j + 1)) (r.drop wc1) with
                          | none => rfl
                          | some p => simp)
                        have HSM := Lib.hid (show setO y j (getV (r.take wc1)) = mkI op.toNat (vs ++ [getV (r.take wc1)]) by rw [hym]; exact setO_mk hvs (by omega) _)
                        generalize hgv : getV (r.take wc1) = gv at *
                        have HST : Hid (∀ w7, Calls Tryd.prog 53 #[.agg #[.int .u8 y.op, .int .i64 y.a, .int .i64 y.b, .int .i64 y.c, .int .i64 y.d], .int .i64 j, .int .i64 gv] w7 fun e w' => e = .returned (.agg #[.int .u8 (setO y j gv).op, .int .i64 (setO y j gv).a, .int .i64 (setO y j gv).b, .int .i64 (setO y j gv).c, .int .i64 (setO y j gv).d]) ∧ Below w7.heap.size w7 w') := Lib.hid (fun w7 => rset_any y j (by omega) gv w7)
                        generalize setO y j gv = z at *
                        have HQN : Hid (∀ (w9 : World) (Ar : Option Addr), BysAt w Ar (r.drop wc1) → Bx w9 wo.heap.size #[.int .u8 z.op, .int .i64 z.a, .int .i64 z.b, .int .i64 z.c, .int .i64 z.d] → Below wo.heap.size wo w9 → RdQ w wo w9 op.toNat (clsL op.toNat) b (j + 1) (vs ++ [gv]) z (r.drop wc1) Ar (c2 - wc1)) := Lib.hid (fun w9 Ar h1 h2 h3 => ⟨by rw [List.length_drop]; omega, h1, h2, h3, HSM.out, HRS.out⟩)
                        have HVL := Lib.hid (show (vs ++ [gv]).length = j + 1 by simp [hvs])
                        clear hst hrd hcd hwc hgv hym
                        obtain ⟨e0, e1, e2, e3, e4, _⟩ := HXq.out.five
                        have u1 : (wc1 : Int) ≤ r.length := by omega
                        have u2' : (r.length : Int) ≤ c2 := by omega
                        have u3' : (0 : Int) ≤ wc1 := by omega
                        go_upto_region 19 with fail
                        go_upto_region 22 with (go_at_call 41; refine HWD.out.mono ?_; rintro e w7 ⟨rfl, rfl⟩)
                        by_cases hcw : c2 = wc1
                        · subst hcw
                          go_region_law (first
                            | (go_simp; go_at_call 52; refine HTK.out.mono ?_; rintro e w7 ⟨rfl, hb7⟩; have HX7 := Lib.hid ((HXq.out.below (belowDrawn (Below.refl wr.heap.size wr))).below hb7); have HB7 := Lib.hid (below_step (belowDrawn HBq.out) (belowDrawn HBq.out).size hb7); obtain ⟨⟨y0, y1, y2, y3, y4⟩, _⟩ := HX7.out.fives)
                            | (go_simp; go_at_call 53; refine (HST.out w7).mono ?_; rintro e w8 ⟨rfl, hb8⟩; have HX8 := Lib.hid (HX7.out.below hb8); have HB8 := Lib.hid (below_step HB7.out HB7.out.size hb8); obtain ⟨⟨z0, z1, z2, z3, z4⟩, f0, f1, f2, f3, f4⟩ := HX8.out.fives)
                            | fail)
                          all_goals
                            go_wp2_with fail
                            have HF := Lib.hid (And.intro (HX8.out.set5 (.int .u8 z.op) (.int .i64 z.a) (.int .i64 z.b) (.int .i64 z.c) (.int .i64 z.d)) (below_set5 HB8.out (Nat.le_refl _) (.int .u8 z.op) (.int .i64 z.a) (.int .i64 z.b) (.int .i64 z.c) (.int .i64 z.d)))
                            generalize World.setCell _ _ _ = WF at HF ⊢
                            exact ⟨⟨j + 1, _, z, r.drop c2, some ⟨b2, o2, none⟩, c2 - c2, by omega, HVL.out, by go_num, by rw [List.length_drop, show r.length - c2 = 0 by omega, Nat.sub_self], Lib.hid (HQN.out _ _ (bys_nil (by omega)) HF.out.1 HF.out.2)⟩, by simp [intOf]; omega⟩
                        · have hcw2 : wc1 < c2 := by omega
                          go_region_law (first
                            | (go_simp; go_at_call 52; refine HTK.out.mono ?_; rintro e w7 ⟨rfl, hb7⟩; have HX7 := Lib.hid ((HXq.out.below (belowDrawn (Below.refl wr.heap.size wr))).below hb7); have HB7 := Lib.hid (below_step (belowDrawn HBq.out) (belowDrawn HBq.out).size hb7); obtain ⟨⟨y0, y1, y2, y3, y4⟩, _⟩ := HX7.out.fives)
                            | (go_simp; go_at_call 53; refine (HST.out w7).mono ?_; rintro e w8 ⟨rfl, hb8⟩; have HX8 := Lib.hid (HX7.out.below hb8); have HB8 := Lib.hid (below_step HB7.out HB7.out.size hb8); obtain ⟨⟨z0, z1, z2, z3, z4⟩, f0, f1, f2, f3, f4⟩ := HX8.out.fives)
                            | fail)
                          all_goals
                            go_wp2_with fail
                            have HF := Lib.hid (And.intro (HX8.out.set5 (.int .u8 z.op) (.int .i64 z.a) (.int .i64 z.b) (.int .i64 z.c) (.int .i64 z.d)) (below_set5 HB8.out (Nat.le_refl _) (.int .u8 z.op) (.int .i64 z.a) (.int .i64 z.b) (.int .i64 z.c) (.int .i64 z.d)))
                            generalize World.setCell _ _ _ = WF at HF ⊢
                            exact ⟨⟨j + 1, _, z, r.drop wc1, some ⟨b2, o2 + wc1, none⟩, c2 - wc1, by omega, HVL.out, by go_num, by rw [List.length_drop], Lib.hid (HQN.out _ _ HYq.out.drop HF.out.1 HF.out.2)⟩, by simp [intOf]; omega⟩
                    · obtain rfl : j = (clsL op.toNat).length := by omega
                      rw [List.drop_length] at hrd
                      have hrd2 : rdB (clsL op.toNat) b = some (vs, r) := by rw [hrd]; simp [rdB]
                      have hdec : decI (op :: b) = if vIns y = true then .ok y r else .err 3 := by unfold decI; simp only; rw [if_neg (by omega), hrd2, hym]
                      have hyo : y.op = op.toNat := by rw [hym]; rfl
                      have HVD := Lib.hid (rvalid_any y.op (by omega) y.a y.b y.c y.d wr)
                      have hvi : validB y.op y.a y.b y.c y.d = vIns y := rfl
                      rw [hvi] at HVD
                      rw [hdec] at hst
                      have HST := Lib.hid hst
                      have hyo2 : y.op < 256 := by omega
                      clear hst hrd hrd2 hdec hym hyo
                      obtain ⟨e0, e1, e2, e3, e4, _⟩ := HXq.out.five
                      generalize hbv : vIns y = bv at *
                      go_wp2_with fail
                      refine HVD.out.mono ?_
                      rintro e w8 ⟨rfl, hb8⟩
                      have HX8 := Lib.hid (HXq.out.below hb8)
                      have HB8 := Lib.hid (below_step HBq.out HBq.out.size hb8)
                      clear e0 e1 e2 e3 e4 hb8 HXq HBq HVD
                      cases bv with
                      | false =>
                        have HR := Lib.hid (show RetDA l w (.returned (.tuple #[.slice none 0 0, .int .i64 3])) w8 from by
                          unfold RetDA
                          rw [HD.out, HST.out]
                          exact ⟨below_step hWI.out.1 hWI.out.1.size HB8.out, rfl⟩)
                        go_wp2_with fail
                        exact bodyPost_ret (v := .tuple #[.slice none 0 0, .int .i64 3]) (by simp [results, Tryd.results26]) rfl HR.out
                      | true =>
                        have HN2 := Lib.hid (fun (w' : World) (v' : Value) (h : WI w.heap.size w w' v' (acc ++ [y])) => show DeR w w' v' b4 n (k + 1) r A2 c2 (acc ++ [y]) from ⟨hlc, HYq.out, h, by simp [hlen], HY.out.push hyo2, HST.out⟩)
                        obtain ⟨e0, e1, e2, e3, e4, _⟩ := HX8.out.five
                        have HW8 := Lib.hid (hWI.out.below hWI.out.1.size HB8.out)
                        have HO := Lib.hid (HW8.out.below HW8.out.1.size (below_box w8 (Obj.cells #[.int .u8 y.op, .int .i64 y.a, .int .i64 y.b, .int .i64 y.c, .int .i64 y.d] 43)))
                        have hs6 := HO.out.1.size
                        rw [hlen] at HO
                        go_wp2_with (at_builtin; go_loud (refine wpList_app _ rfl _ _ 22 rfl w.heap.size 43 i0 (.agg #[.int .u8 0, .int .i64 0, .int .i64 0, .int .i64 0, .int .i64 0]) 5 40 Tryd.underlying22 HI.out.1 HI.out.2.1 HI.out.2.2.1 HI.out.2.2.2 rfl (by decide) _ _ _ rfl HO.out.2 (some ⟨w8.heap.size, 0, none⟩) 1 1 [.int .u8 y.op, .int .i64 y.a, .int .i64 y.b, .int .i64 y.c, .int .i64 y.d] rfl rfl (cells_newU w8 rfl _ _) (one_ins y) (by have := HN.out; unfold maxLen; omega) (by have := HN.out; omega) hs6 ?_; intro v' w6 hown' hgrow _; have NX := Lib.hid (HN2.out _ _ (HO.out.push hs6 y hgrow hown')); clear hown' hgrow HO hs6 HN2))
                        have hlv : lenOf v' = k + 1 := by
                          have h4 := NX.out.2.2.2.1
                          obtain ⟨Az, cz, rfl, _⟩ := code_of_own NX.out.2.2.1.2
                          exact h4
                        refine ⟨⟨k + 1, r, A2, c2, acc ++ [y], by omega, rfl, NX⟩, ?_⟩
                        show n - lenOf v' < n - acc.length
                        omega
          · obtain rfl : k = n := by omega
            have hst : decN k b4 [] = if r = [] then .ok acc else .err 3 := by rw [hd.out.2.2.2.2.2, Nat.sub_self, decN]
            by_cases hr0 : r = []
            · have HR := Lib.hid (show RetDA l w (.returned (.tuple #[.slice Aa acc.length ca, .int .i64 0])) wo from by unfold RetDA; rw [HD.out, hst, if_pos hr0]; exact ⟨_, rfl, hd.out.2.2.1, hd.out.2.2.2.2.1⟩)
              rw [show r.length = 0 by rw [hr0]; rfl]
              clear hst hd
              rw [hlen] at HR ⊢
              go_wp2_with fail
              exact bodyPost_ret (v := .tuple #[.slice Aa k ca, .int .i64 0]) (by simp [results, Tryd.results26]) rfl HR.out
            · have HR := Lib.hid (show RetDA l w (.returned (.tuple #[.slice none 0 0, .int .i64 3])) wo from by unfold RetDA; rw [HD.out, hst, if_neg hr0]; exact ⟨hd.out.2.2.1.1, rfl⟩)
              have hp : (0 : Int) < r.length := by have := List.length_pos_iff.2 hr0; omega
              clear hst hd
              go_wp2_with fail
              exact bodyPost_ret (v := .tuple #[.slice none 0 0, .int .i64 3]) (by simp [results, Tryd.results26]) rfl HR.out

end Go.Proofs.YtodiijoeeeeicaaDoor

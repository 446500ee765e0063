/-
  The contract of the reference's Read.
-/
import Derived.Test.YtodiijoeeeeicaaDoorAsmROp
import Derived.Test.YtodiijoeeeeicaaDoorAsmRDe
import Derived.Test.YtodiijoeeeeicaaDoorAsmIns
import Derived.Test.YtodiijoeeeeicaaDoorAsmWrd
namespace Go.Proofs.YtodiijoeeeeicaaDoor
open Go.ChangeShapes Go.WideShapes Go.ChangeAt Go.RowKit Go.Sort

theorem ws_strs {B : Nat} {W wr : World} {v : Value} {l : List (List UInt8)} (h : WS B W wr v l) : ∃ A c, v = .slice A l.length c ∧ StrsAt wr A (l.map bs) := by
  have h2 := h.2
  unfold strL at h2
  obtain ⟨A, c, e, _, hs⟩ := strs_of_own (l := l.map bs) (by rw [List.length_map, List.map_map]; exact h2)
  rw [List.length_map] at e
  exact ⟨A, c, e, hs⟩
theorem rmnem_any (k : Nat) (h : k < 256) (w : World) : Calls Tryd.prog 60 #[.int .u8 k] w fun e w' => e = .returned (.string (bs (mnem k))) ∧ Below w.heap.size w w' :=
  (refMnemonic_any k h w).mono fun _ _ h => ⟨by rw [h.1]; unfold bs; rfl, h.2⟩
theorem opcO_miss {x : List UInt8} (h : ∀ j, j < 35 → mnem j ≠ x) : opcO x = none := by
  cases ho : opcO x with
  | none => rfl
  | some op => exact absurd (opcO_some ho).2 (h op (opcO_some ho).1)
/-- Where the inner loop stands. -/
def RrQ (W1 wr : World) (X R : Nat) (op : Nat) (cs : List UInt8) (ws : List (List UInt8)) (j : Nat) (vs : List Int) (y : Ins) : Prop :=
  Bx wr X #[.int .u8 y.op, .int .i64 y.a, .int .i64 y.b, .int .i64 y.c, .int .i64 y.d] ∧ Bx wr R #[.int .u8 0, .int .i64 0, .int .i64 0, .int .i64 0, .int .i64 0] ∧ Below X W1 wr ∧ y = mkI op vs ∧ rdL cs ws = (rdL (cs.drop j) (ws.drop j)).map fun p => vs ++ p
set_option maxRecDepth 100000 in
set_option maxHeartbeats 4000000 in
theorem rread_any (s : List UInt8) (w : World) (hs : s.length ≤ 1000000000) :
    Calls Tryd.prog 44 #[.string (bs s)] w (RetI s w) := by
  have hbR := below_box w (Obj.cells #[.int .u8 0, .int .i64 0, .int .i64 0, .int .i64 0, .int .i64 0] 43)
  have HBR := Lib.hid hbR
  have HRB := Lib.hid (bx_new w #[.int .u8 0, .int .i64 0, .int .i64 0, .int .i64 0, .int .i64 0] 43)
  have HC := Lib.hid (words_any s (w.alloc (Obj.cells #[.int .u8 0, .int .i64 0, .int .i64 0, .int .i64 0, .int .i64 0] 43)) hs)
  clear hbR
  go_enter Tryd.func44, Tryd.ntmps44
  go_wp2_with fail
  generalize w.alloc _ = W at HBR HRB HC ⊢
  refine HC.out.mono ?_
  rintro e w1 ⟨v, rfl, hws⟩
  obtain ⟨Aw, cw, rfl, hst⟩ := ws_strs hws
  have HB1 := Lib.hid (below_step HBR.out HBR.out.size hws.1)
  have HRB1 := Lib.hid (HRB.out.below hws.1)
  have HSt := Lib.hid hst
  have hne := splitL_ne s
  have hwl : ∀ x ∈ splitL s, x.length ≤ s.length := split_word s
  have HSP := Lib.hid (show ∃ l, splitL s = l from ⟨_, rfl⟩)
  obtain ⟨l, hl⟩ := HSP.out
  rw [hl] at HSt hne hwl ⊢
  clear hst hws HRB HBR HC HSP
  cases l with
  | nil => exact absurd rfl hne
  | cons x ws =>
    have HRI := Lib.hid (readI_of hl)
    have HWL := Lib.hid hwl
    clear hwl hl hne
    obtain ⟨bA, oA, rfl, hc0⟩ := HSt.out 0 (bs x) rfl
    clear hc0
    have hrl : w.heap.size < w1.heap.size := HRB1.out.lt
    have r0 : (0 : Int) < (ws.length : Int) + 1 := by omega
    go_upto_region 3 with fail
    have H0 := Lib.hid (show Below w1.heap.size w1 w1 from Below.refl _ _)
    go_loopw [5] (fun i wr => ∃ k : Nat, k ≤ 35 ∧ i = .int .i64 k ∧ Hid (∀ j, j < k → mnem j ≠ x) ∧ Hid (Below w1.heap.size w1 wr)) (fun i _ => 35 - (intOf i).toNat)
    case atStart => exact ⟨0, by omega, rfl, fun j hj => by omega, H0⟩
    case round =>
      obtain ⟨k, hk, rfl, hall, hb⟩ := hrel
      by_cases hin : k < 35
      · have hm : (k : Int) % 256 = k := by omega
        have hm2 : IntKind.u8.wrap (k : Int) = k := by rw [IntKind.wrap_u8]; exact hm
        have hk35 : (k : Int) < 35 := by omega
        obtain ⟨b', o', e, hc0⟩ := (HSt.out.mono hb.out).at_ (k := 0) (by simp)
        cases e
        rw [Nat.add_zero] at hc0
        have hc1 : wr.cell? ⟨bA, oA, none⟩ = some (.string (bs x)) := hc0
        clear hc0
        have HMN : Hid (Calls Tryd.prog 60 #[.int .u8 k] wr.drew fun e w' => e = .returned (.string (bs (mnem k))) ∧ Below wr.drew.heap.size wr.drew w') := Lib.hid (rmnem_any k (by omega) wr.drew)
        have HBE : Hid (mnem k = x ∨ mnem k ≠ x) := Lib.hid (Decidable.em _)
        rcases HBE.out with h | h
        rotate_left
        · have hne : ((bs (mnem k)).toList == (bs x).toList) = false := by rw [toL', toL']; exact beq_eq_false_iff_ne.2 h
          have hne2 : ((bs (mnem k)).toList != (bs x).toList) = true := by unfold bne; rw [hne]; rfl
          have HN := Lib.hid (fun (j : Nat) (h2 : j < k + 1) => show mnem j ≠ x from by
            by_cases e : j = k
            · subst e; exact h
            · exact hall.out j (by omega))
          clear h HBE hall
          generalize bs (mnem k) = sx at hne hne2 HMN
          go_upto_region 5 with fail
          go_region_law (first
            | (go_simp; go_at_call 60; refine HMN.out.mono ?_; rintro e w7 ⟨rfl, hb7⟩; have q7 := Lib.hid (below_step (belowDrawn hb.out) (belowDrawn hb.out).size hb7); have hc7 := below_cell hb7 hc1)
            | fail)
          all_goals
            go_wp2_with fail
            exact ⟨⟨k + 1, by omega, by go_num, HN, q7⟩, by simp [intOf]; omega⟩
        · rw [h] at HMN
          have HOC := Lib.hid (show opcO x = some k by rw [← h]; exact opcO_mnem hin)
          clear HBE hall
          go_upto_region 5 with fail
          go_cut [24] from 14 to 68 (fun v wc => v = .bool false ∧ Hid (Below w1.heap.size w1 wc))
          case first =>
            go_region_law (first
              | (go_simp; go_at_call 60; refine HMN.out.mono ?_; rintro e w7 ⟨rfl, hb7⟩; have q7 := Lib.hid (below_step (belowDrawn hb.out) (belowDrawn hb.out).size hb7); have hc7 := below_cell hb7 hc1)
              | fail)
            all_goals
              go_wp2_with fail
              go_meet
              exact ⟨rfl, q7⟩
          case rest =>
            obtain ⟨rfl, hbc⟩ := hcut
            clear HMN hc1 hb
            have HCL := Lib.hid (rclasses_any k (by omega) wc)
            go_wp2_with fail
            refine HCL.out.mono ?_
            rintro e w8 ⟨rfl, hb8⟩
            have HB8 := Lib.hid (below_step hbc.out hbc.out.size hb8)
            have HX0 := Lib.hid (bx_new w8 #[.int .u8 k, .int .i64 0, .int .i64 0, .int .i64 0, .int .i64 0] 43)
            have HB0 := Lib.hid (below_box w8 (Obj.cells #[.int .u8 k, .int .i64 0, .int .i64 0, .int .i64 0, .int .i64 0] 43))
            have hszc := bs_size (clsL k)
            have hcl4 := (clsL_len k).2
            have hrx : w.heap.size < w8.heap.size := Nat.lt_of_lt_of_le hrl HB8.out.size
            clear hb8 HCL hbc
            by_cases hlen : ws.length = (clsL k).length
            rotate_left
            · have HRN : Hid (∀ w', Below w.heap.size w w' → RetI s w (.returned (.tuple #[.agg #[.int .u8 k, .int .i64 0, .int .i64 0, .int .i64 0, .int .i64 0], .bool false])) w') := Lib.hid (fun w' hb => ⟨hb, by
                rw [show readI s = none by rw [HRI.out, HOC.out]; dsimp only; rw [rdL_len hlen]]
                exact ⟨⟨k, 0, 0, 0, 0⟩, rfl⟩⟩)
              have hl1 : ((ws.length : Int) + 1 != ((clsL k).length : Int) + 1) = true := bne_iff_ne.2 (by omega)
              go_upto_region 8 with fail
              generalize w8.alloc _ = W9 at HX0 HB0 ⊢
              have HB9 := Lib.hid (below_step HB8.out HB8.out.size HB0.out)
              obtain ⟨⟨x0, x1, x2, x3, x4⟩, _⟩ := HX0.out.fives
              obtain ⟨⟨y0, y1, y2, y3, y4⟩, f0, f1, f2, f3, f4⟩ := (HRB1.out.below HB9.out).fives
              go_wp2_with fail
              have HF := Lib.hid (And.intro ((HRB1.out.below HB9.out).set5 (.int .u8 k) (.int .i64 0) (.int .i64 0) (.int .i64 0) (.int .i64 0)) (below_set5 (below_step HB1.out HB1.out.size HB9.out) (Nat.le_refl _) (.int .u8 k) (.int .i64 0) (.int .i64 0) (.int .i64 0) (.int .i64 0)))
              generalize World.setCell _ _ _ = WF at HF ⊢
              obtain ⟨⟨g0, g1, g2, g3, g4⟩, _⟩ := HF.out.1.fives
              exact bodyPost_ret (v := .tuple #[.agg #[.int .u8 k, .int .i64 0, .int .i64 0, .int .i64 0, .int .i64 0], .bool false]) (by simp [results, Tryd.results44, go_sem, g0, g1, g2, g3, g4]) rfl (HRN.out _ HF.out.2)
            · have hl1 : ((ws.length : Int) + 1 != ((clsL k).length : Int) + 1) = false := by rw [hlen]; simp
              go_upto_region 8 with fail
              generalize w8.alloc _ = W9 at HX0 HB0 ⊢
              have HB9 := Lib.hid (below_step HB8.out HB8.out.size HB0.out)
              have hrd0 : rdL (clsL k) ws = (rdL ((clsL k).drop 0) (ws.drop 0)).map fun p => [] ++ p := by
                rw [List.drop_zero, List.drop_zero]
                cases rdL (clsL k) ws with
                | none => rfl
                | some p => rfl
              have hq2 : Hid (∃ y, RrQ w8 W9 w8.heap.size w.heap.size k (clsL k) ws 0 [] y) := Lib.hid ⟨mkI k [], HX0.out, HRB1.out.below HB9.out, HB0.out, rfl, hrd0⟩
              obtain ⟨y0, hq3⟩ := hq2.out
              have HQ := Lib.hid hq3
              clear hrd0 hq2 hq3 HX0 HB0 HB9
              go_upto_region 11 with fail
              go_loopw [9] (fun i wr => ∃ (j : Nat) (vs : List Int) (y : Ins), j ≤ (clsL k).length ∧ vs.length = j ∧ i = .int .i64 j ∧ Hid (RrQ w8 wr w8.heap.size w.heap.size k (clsL k) ws j vs y)) (fun i _ => (clsL k).length - (intOf i).toNat)
              case atStart => exact ⟨0, [], y0, by omega, rfl, rfl, HQ⟩
              case round =>
                obtain ⟨j, vs, y, hj, hvs, rfl, hq⟩ := hrel
                have HXq := Lib.hid hq.out.1
                have HRq := Lib.hid hq.out.2.1
                have HBq := Lib.hid hq.out.2.2.1
                have hym := hq.out.2.2.2.1
                have hrd := hq.out.2.2.2.2
                clear hq
                have HBw := Lib.hid (below_step HB8.out HB8.out.size HBq.out)
                have HBt := Lib.hid (below_step HB1.out HB1.out.size HBw.out)
                by_cases hjn : j < (clsL k).length
                · have hjw : j < ws.length := by omega
                  have hsix := cls_at hjn
                  have hbg : (bs (clsL k))[j]'(by omega) = (clsL k)[j]'hjn := by rw [bs_get, List.getD_eq_getElem?_getD, List.getElem?_eq_getElem hjn]; rfl
                  have s1 : (0 : Int) ≤ j := by omega
                  have s3 : (j : Int) < (bs (clsL k)).size := by omega
                  have hcd : (clsL k).drop j = (clsL k)[j]'hjn :: (clsL k).drop (j + 1) := List.drop_eq_getElem_cons hjn
                  have hwd : ws.drop j = ws[j]'hjw :: ws.drop (j + 1) := List.drop_eq_getElem_cons hjw
                  rw [hcd, hwd] at hrd
                  obtain ⟨b', o', e, hcw⟩ := (HSt.out.mono HBw.out).at_ (k := j + 1) (by simp; omega)
                  cases e
                  rw [List.getElem_map, List.getElem_cons_succ] at hcw
                  have hwj := HWL.out (ws[j]'hjw) (by simp)
                  generalize ws[j]'hjw = wj at *
                  have HOPD := Lib.hid (roperand_any wj ((clsL k)[j]'hjn) hsix wr.drew (by omega))
                  obtain ⟨e0, e1, e2, e3, e4, _⟩ := HXq.out.five
                  have t1 : IntKind.i64.wrap ((j : Int) + 1) = (j : Int) + 1 := by rw [IntKind.wrap_i64]; omega
                  have t2 : ((j : Int) + 1).toNat = j + 1 := by omega
                  have t3 : (j : Int) + 1 < ((clsL k).length : Int) + 1 := by omega
                  have t5 : j + 1 < (clsL k).length + 1 := by omega
                  have t4 : (0 : Int) ≤ (j : Int) + 1 := by omega
                  cases hw : rdW ((clsL k)[j]'hjn) wj with
                  | none =>
                    have HRN : Hid (∀ w', Below w.heap.size w w' → RetI s w (.returned (.tuple #[.agg #[.int .u8 y.op, .int .i64 y.a, .int .i64 y.b, .int .i64 y.c, .int .i64 y.d], .bool false])) w') := Lib.hid (fun w' hb => ⟨hb, by
                      rw [show readI s = none by rw [HRI.out, HOC.out]; dsimp only; rw [hrd, rdL_bad hw]; rfl]
                      exact ⟨y, rfl⟩⟩)
                    have HO2 : Hid (Calls Tryd.prog 67 #[.string (bs wj), .int .u8 ((clsL k)[j]'hjn).toNat] wr.drew fun e w' => (∃ z, e = .returned (.tuple #[.int .i64 z, .bool false])) ∧ wr.drew = w') := Lib.hid (HOPD.out.mono fun e w' h => by
                      refine ⟨?_, h.2⟩
                      rcases h.1 with ⟨v, hv, _⟩ | ⟨_, hz⟩
                      · rw [hw] at hv; cases hv
                      · exact hz)
                    clear HOPD hrd hcd hwd hw hym
                    go_upto_region 13 with fail
                    go_region_law (first
                      | (go_simp; go_at_call 67; refine HO2.out.mono ?_; rintro e w7 ⟨⟨z, rfl⟩, rfl⟩)
                      | fail)
                    all_goals
                      obtain ⟨⟨y0, y1, y2, y3, y4⟩, f0, f1, f2, f3, f4⟩ := HRq.out.fives
                      go_wp2_with fail
                      have HF := Lib.hid (And.intro (HRq.out.set5 (.int .u8 y.op) (.int .i64 y.a) (.int .i64 y.b) (.int .i64 y.c) (.int .i64 y.d)) (below_set5 HBt.out (Nat.le_refl _) (.int .u8 y.op) (.int .i64 y.a) (.int .i64 y.b) (.int .i64 y.c) (.int .i64 y.d)))
                      generalize World.setCell _ _ _ = WF at HF ⊢
                      obtain ⟨⟨g0, g1, g2, g3, g4⟩, _⟩ := HF.out.1.fives
                      exact bodyPost_ret (v := .tuple #[.agg #[.int .u8 y.op, .int .i64 y.a, .int .i64 y.b, .int .i64 y.c, .int .i64 y.d], .bool false]) (by simp [results, Tryd.results44, go_sem, g0, g1, g2, g3, g4]) rfl (HRN.out _ (belowDrawn HF.out.2))
                  | some v =>
                    have HRS := Lib.hid (show rdL (clsL k) ws = (rdL ((clsL k).drop (j + 1)) (ws.drop (j + 1))).map fun p => (vs ++ [v]) ++ p by
                      rw [hrd, rdL_step hw]
                      cases rdL ((clsL k).drop (j + 1)) (ws.drop (j + 1)) with
                      | none => rfl
                      | some p => simp)
                    have HSM := Lib.hid (show setO y j v = mkI k (vs ++ [v]) by rw [hym]; exact setO_mk hvs (by omega) _)
                    have HO2 : Hid (Calls Tryd.prog 67 #[.string (bs wj), .int .u8 ((clsL k)[j]'hjn).toNat] wr.drew fun e w' => e = .returned (.tuple #[.int .i64 v, .bool true]) ∧ wr.drew = w') := Lib.hid (HOPD.out.mono fun e w' h => by
                      refine ⟨?_, h.2⟩
                      rcases h.1 with ⟨v', hv, he⟩ | ⟨hv, _⟩
                      · rw [hw] at hv; cases hv; exact he
                      · rw [hw] at hv; cases hv)
                    have HST : Hid (Calls Tryd.prog 53 #[.agg #[.int .u8 y.op, .int .i64 y.a, .int .i64 y.b, .int .i64 y.c, .int .i64 y.d], .int .i64 j, .int .i64 v] wr.drew fun e w' => e = .returned (.agg #[.int .u8 (setO y j v).op, .int .i64 (setO y j v).a, .int .i64 (setO y j v).b, .int .i64 (setO y j v).c, .int .i64 (setO y j v).d]) ∧ Below wr.drew.heap.size wr.drew w') := Lib.hid (rset_any y j (by omega) v wr.drew)
                    generalize setO y j v = z at HSM HST
                    have HVL := Lib.hid (show (vs ++ [v]).length = j + 1 by simp [hvs])
                    clear HOPD hrd hcd hwd hw hym
                    go_upto_region 13 with fail
                    go_region_law (first
                      | (go_simp; go_at_call 67; refine HO2.out.mono ?_; rintro e w7 ⟨rfl, rfl⟩)
                      | fail)
                    all_goals
                      go_wp2_with fail
                      refine HST.out.mono ?_
                      rintro e w9 ⟨rfl, hb9⟩
                      have HX9 := Lib.hid ((HXq.out.below (belowDrawn (Below.refl wr.heap.size wr))).below hb9)
                      have HB9 := Lib.hid (below_step (belowDrawn HBq.out) (belowDrawn HBq.out).size hb9)
                      obtain ⟨⟨z0, z1, z2, z3, z4⟩, f0, f1, f2, f3, f4⟩ := HX9.out.fives
                      clear hb9
                      go_wp2_with fail
                      have HF := Lib.hid (And.intro (HX9.out.set5 (.int .u8 z.op) (.int .i64 z.a) (.int .i64 z.b) (.int .i64 z.c) (.int .i64 z.d)) (below_set5 HB9.out (Nat.le_refl _) (.int .u8 z.op) (.int .i64 z.a) (.int .i64 z.b) (.int .i64 z.c) (.int .i64 z.d)))
                      generalize World.setCell _ _ _ = WF at HF ⊢
                      have HQN := Lib.hid (show RrQ w8 WF w8.heap.size w.heap.size k (clsL k) ws (j + 1) (vs ++ [v]) z from ⟨HF.out.1, (HRB1.out.below HB8.out).below HF.out.2, HF.out.2, HSM.out, HRS.out⟩)
                      exact ⟨⟨j + 1, _, z, by omega, HVL.out, by go_num, HQN⟩, by simp [intOf]; omega⟩
                · obtain rfl : j = (clsL k).length := by omega
                  rw [List.drop_length, ← hlen, List.drop_length] at hrd
                  have hrd2 : rdL (clsL k) ws = some vs := by rw [hrd]; simp [rdL]
                  have hyo : y.op = k := by rw [hym]; rfl
                  have hrI : readI s = if vIns y = true then some y else none := by rw [HRI.out, HOC.out]; dsimp only; rw [hrd2, hym]
                  have HRN : Hid (∀ w', Below w.heap.size w w' → RetI s w (.returned (.tuple #[.agg #[.int .u8 y.op, .int .i64 y.a, .int .i64 y.b, .int .i64 y.c, .int .i64 y.d], .bool (vIns y)])) w') := Lib.hid (fun w' hb => ⟨hb, by
                    rw [hrI]
                    cases hv : vIns y with
                    | true => exact ⟨by rw [hyo]; omega, rfl⟩
                    | false => exact ⟨y, rfl⟩⟩)
                  have HVA : Hid (∀ W, Calls Tryd.prog 54 #[.agg #[.int .u8 y.op, .int .i64 y.a, .int .i64 y.b, .int .i64 y.c, .int .i64 y.d]] W fun e w' => e = .returned (.bool (vIns y)) ∧ Below W.heap.size W w') := Lib.hid (fun W => rvalid_any y.op (by rw [hyo]; omega) y.a y.b y.c y.d W)
                  generalize vIns y = bv at HRN HVA
                  clear hrd hrd2 hyo hrI hym
                  obtain ⟨e0, e1, e2, e3, e4, _⟩ := HXq.out.five
                  obtain ⟨⟨y0, y1, y2, y3, y4⟩, f0, f1, f2, f3, f4⟩ := HRq.out.fives
                  go_upto_region 17 with fail
                  go_region_law (first
                    | (go_simp; go_at_call 54; refine (HVA.out wr.drew).mono ?_; rintro e w9 ⟨rfl, hb9⟩; have HX9 := Lib.hid ((HXq.out.below (belowDrawn (Below.refl wr.heap.size wr))).below hb9); have HR9 := Lib.hid ((HRq.out.below (belowDrawn (Below.refl wr.heap.size wr))).below hb9); have HB9 := Lib.hid (below_step (belowDrawn HBt.out) (belowDrawn HBt.out).size hb9); obtain ⟨⟨x0, x1, x2, x3, x4⟩, _⟩ := HX9.out.fives; obtain ⟨⟨z0, z1, z2, z3, z4⟩, h0, h1, h2, h3, h4⟩ := HR9.out.fives)
                    | fail)
                  all_goals
                    go_wp2_with fail
                    have HF := Lib.hid (And.intro (HR9.out.set5 (.int .u8 y.op) (.int .i64 y.a) (.int .i64 y.b) (.int .i64 y.c) (.int .i64 y.d)) (below_set5 HB9.out (Nat.le_refl _) (.int .u8 y.op) (.int .i64 y.a) (.int .i64 y.b) (.int .i64 y.c) (.int .i64 y.d)))
                    generalize World.setCell _ _ _ = WF at HF ⊢
                    obtain ⟨⟨g0, g1, g2, g3, g4⟩, _⟩ := HF.out.1.fives
                    exact bodyPost_ret (v := .tuple #[.agg #[.int .u8 y.op, .int .i64 y.a, .int .i64 y.b, .int .i64 y.c, .int .i64 y.d], .bool bv]) (by simp [results, Tryd.results44, go_sem, g0, g1, g2, g3, g4]) rfl (HRN.out _ HF.out.2)
      · have HRN : Hid (∀ w', Below w.heap.size w w' → RetI s w (.returned (.tuple #[.agg #[.int .u8 0, .int .i64 0, .int .i64 0, .int .i64 0, .int .i64 0], .bool false])) w') := Lib.hid (fun w' hb => ⟨hb, by
          rw [show readI s = none by rw [HRI.out, opcO_miss (x := x) (fun j hj => hall.out j (by omega))]]
          exact ⟨⟨0, 0, 0, 0, 0⟩, rfl⟩⟩)
        have hk35 : ¬ (k : Int) < 35 := by omega
        clear hall
        obtain ⟨⟨y0, y1, y2, y3, y4⟩, f0, f1, f2, f3, f4⟩ := (HRB1.out.below hb.out).fives
        go_wp2_with fail
        have HF := Lib.hid (And.intro ((HRB1.out.below hb.out).set5 (.int .u8 0) (.int .i64 0) (.int .i64 0) (.int .i64 0) (.int .i64 0)) (below_set5 (below_step HB1.out HB1.out.size hb.out) (Nat.le_refl _) (.int .u8 0) (.int .i64 0) (.int .i64 0) (.int .i64 0) (.int .i64 0)))
        generalize World.setCell _ _ _ = WF at HF ⊢
        obtain ⟨⟨g0, g1, g2, g3, g4⟩, _⟩ := HF.out.1.fives
        exact bodyPost_ret (v := .tuple #[.agg #[.int .u8 0, .int .i64 0, .int .i64 0, .int .i64 0, .int .i64 0], .bool false]) (by simp [results, Tryd.results44, go_sem, g0, g1, g2, g3, g4]) rfl (HRN.out _ HF.out.2)

end Go.Proofs.YtodiijoeeeeicaaDoor

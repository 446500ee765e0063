/-
  The contract of asm.instruction.
-/
import Derived.Test.YtodiijoeeeeicaaDoorAsmOpd
import Derived.Test.YtodiijoeeeeicaaDoorAsmOpc
import Derived.Test.YtodiijoeeeeicaaDoorAsmDec
import Derived.Deep.RegionLaw
namespace Go.Proofs.YtodiijoeeeeicaaDoor
open Go.ChangeShapes Go.WideShapes Go.ChangeAt Go.RowKit Go.Sort

theorem rdL_len : ∀ {cs : List UInt8} {ws : List (List UInt8)}, ws.length ≠ cs.length → rdL cs ws = none
  | [], [], h => absurd rfl h
  | [], _ :: _, _ => rfl
  | _ :: _, [], _ => rfl
  | c :: cs, w :: ws, h => by
    rw [rdL, rdL_len (cs := cs) (ws := ws) (by simpa using h)]
    cases rdW c w <;> rfl
theorem readI_of {s : List UInt8} {x : List UInt8} {ws : List (List UInt8)} (h : splitL s = x :: ws) : readI s = match opcO x with
    | none => none
    | some op => match rdL (clsL op) ws with
      | none => none
      | some vs => if vIns (mkI op vs) = true then some (mkI op vs) else none := by
  unfold readI; rw [h]; rfl
theorem readI_long {s : List UInt8} (h : 6 < (splitL s).length) : readI s = none := by
  cases hs : splitL s with
  | nil => rw [hs] at h; simp at h
  | cons x ws =>
    rw [readI_of hs]
    cases opcO x with
    | none => rfl
    | some op =>
      dsimp only
      rw [rdL_len (by have := (clsL_len op).2; rw [hs] at h; simp at h; omega)]
theorem StrsAt.fr {w w' : World} {m : Nat → Prop} {b o : Nat} {l : List ByteArray} (h : StrsAt w (some ⟨b, o, none⟩) l) (hf : Fr w w' m) (hn : ¬ m b) : StrsAt w' (some ⟨b, o, none⟩) l := fun k y hk => by
  obtain ⟨b', o', e, h1⟩ := h k y hk
  cases e
  exact ⟨_, _, rfl, hf.cell h1 hn⟩
theorem rdL_step {c : UInt8} {cs : List UInt8} {w : List UInt8} {ws : List (List UInt8)} {v : Int} (h : rdW c w = some v) : rdL (c :: cs) (w :: ws) = (rdL cs ws).map fun p => v :: p := by
  rw [rdL, h]
  cases rdL cs ws <;> rfl
theorem rdL_bad {c : UInt8} {cs : List UInt8} {w : List UInt8} {ws : List (List UInt8)} (h : rdW c w = none) : rdL (c :: cs) (w :: ws) = none := by
  rw [rdL, h]
/-- What instruction hands back. -/
def RetI (s : List UInt8) (w : World) (e : Ending) (w' : World) : Prop := Below w.heap.size w w' ∧ match readI s with
  | some x => x.op < 256 ∧ e = .returned (.tuple #[x.val, .bool true])
  | none => ∃ y : Ins, e = .returned (.tuple #[y.val, .bool false])
/-- Where the loop stands. -/
def InR (w wr : World) (R X g : Nat) (x : List UInt8) (cs : List UInt8) (ws : List (List UInt8)) (j : Nat) (vs : List Int) : Prop :=
  StrsAt wr (some ⟨g, 0, none⟩) ((x :: ws).map bs) ∧
  Bx wr R #[.int .u8 0, .int .i64 0, .int .i64 0, .int .i64 0, .int .i64 0] ∧ Bx wr X (vals4 vs) ∧ Below w.heap.size w wr ∧ rdL cs ws = (rdL (cs.drop j) (ws.drop j)).map fun p => vs ++ p
set_option maxRecDepth 100000 in
set_option maxHeartbeats 4000000 in
theorem instr_any (s : List UInt8) (w : World) (hs : s.length < 4294967281) (hT : Tab w) (hS : TabS w) (hW : Wld w) :
    Calls Tryd.prog 43 #[.string (bs s)] w (RetI s w) := by
  have hbR := below_box w (Obj.cells #[.int .u8 0, .int .i64 0, .int .i64 0, .int .i64 0, .int .i64 0] 43)
  have HBR := Lib.hid hbR
  have HRB := Lib.hid (bx_new w #[.int .u8 0, .int .i64 0, .int .i64 0, .int .i64 0, .int .i64 0] 43)
  have HTS := Lib.hid (And.intro hT (And.intro hS hW))
  have HC := Lib.hid (splitn_any s (w.alloc (Obj.cells #[.int .u8 0, .int .i64 0, .int .i64 0, .int .i64 0, .int .i64 0] 43)) hs (hW.below hbR))
  clear hT hS hW hbR
  go_enter Tryd.func43, Tryd.ntmps43
  go_wp2_with fail
  generalize w.alloc _ = W at HBR HRB HC ⊢
  refine HC.out.mono ?_
  rintro e w1 ⟨hb1, Wd, cap, hne, hxl, hwd, rfl, hst⟩
  have HB1 := Lib.hid (below_step HBR.out HBR.out.size hb1)
  have HRB1 := Lib.hid (HRB.out.below hb1)
  have HSt := Lib.hid hst
  generalize W.heap.size = gW at HSt ⊢
  clear hst hb1 HRB HBR HC
  cases Wd with
  | nil => exact absurd rfl hne
  | cons x ws =>
    obtain ⟨_, _, ea, hc0⟩ := HSt.out 0 (bs x) rfl
    cases ea
    have HOP := Lib.hid (opcode_any x w1 (HTS.out.1.mono HB1.out))
    have r0 : (0 : Int) < (x :: ws).length := by simp
    cases ho : opcO x with
    | none =>
      have hrd : readI s = none := by
        rcases hwd with e | ⟨_, h6⟩
        · rw [readI_of e.symm, ho]
        · exact readI_long h6
      have HR := Lib.hid (fun (w' : World) (hb : Below w.heap.size w w') => show RetI s w (.returned (.tuple #[zero5, .bool false])) w' from ⟨hb, by rw [hrd]; exact ⟨⟨0, 0, 0, 0, 0⟩, rfl⟩⟩)
      rw [ho] at HOP
      clear hrd hwd
      go_wp2_with fail
      refine HOP.out.mono ?_
      rintro e w2 ⟨rfl, hb2⟩
      have HR2 := Lib.hid (HRB1.out.below hb2)
      have HB2 := Lib.hid (below_step HB1.out HB1.out.size hb2)
      obtain ⟨⟨y0, y1, y2, y3, y4⟩, f0, f1, f2, f3, f4⟩ := HR2.out.fives
      clear hb2
      rw [show ((none : Option Nat).getD 0) = 0 from rfl, show (none : Option Nat).isSome = false from rfl]
      go_wp2_with (go_at_call 30; refine (classes_any 0 (by omega) _).mono ?_; rintro e w3 ⟨rfl, rfl⟩)
      have HF := Lib.hid (And.intro (HR2.out.set5 (.int .u8 0) (.int .i64 0) (.int .i64 0) (.int .i64 0) (.int .i64 0)) (below_set5 HB2.out (Nat.le_refl _) (.int .u8 0) (.int .i64 0) (.int .i64 0) (.int .i64 0) (.int .i64 0)))
      generalize World.setCell _ _ _ = WF at HF ⊢
      obtain ⟨⟨g0, g1, g2, g3, g4⟩, _⟩ := HF.out.1.fives
      exact bodyPost_ret (v := .tuple #[zero5, .bool false]) (by simp [results, Tryd.results43, go_sem, zero5, g0, g1, g2, g3, g4]) rfl (HR.out _ HF.out.2)
    | some op =>
      obtain ⟨h35, hmn⟩ := opcO_some ho
      rw [ho] at HOP
      have hcl := (clsL_len op).2
      have hsz8 := bs_size (clsL op)
      by_cases hlen : ws.length = (clsL op).length
      rotate_left
      · have hrd : readI s = none := by
          rcases hwd with e | ⟨_, h6⟩
          · rw [readI_of e.symm, ho]
            dsimp only
            rw [rdL_len hlen]
          · exact readI_long h6
        have HR := Lib.hid (fun (w' : World) (hb : Below w.heap.size w w') => show RetI s w (.returned (.tuple #[zero5, .bool false])) w' from ⟨hb, by rw [hrd]; exact ⟨⟨0, 0, 0, 0, 0⟩, rfl⟩⟩)
        have hne2 : (((x :: ws).length : Int) != (bs (clsL op)).size + 1) = true := bne_iff_ne.2 (by simp; omega)
        clear hrd hwd
        go_wp2_with fail
        refine HOP.out.mono ?_
        rintro e w2 ⟨rfl, hb2⟩
        have HR2 := Lib.hid (HRB1.out.below hb2)
        have HB2 := Lib.hid (below_step HB1.out HB1.out.size hb2)
        obtain ⟨⟨y0, y1, y2, y3, y4⟩, f0, f1, f2, f3, f4⟩ := HR2.out.fives
        clear hb2
        rw [show ((some op : Option Nat).getD 0) = op from rfl, show (some op : Option Nat).isSome = true from rfl]
        go_wp2_with (go_at_call 30; refine (classes_any op (by omega) _).mono ?_; rintro e w3 ⟨rfl, rfl⟩)
        have HF := Lib.hid (And.intro (HR2.out.set5 (.int .u8 0) (.int .i64 0) (.int .i64 0) (.int .i64 0) (.int .i64 0)) (below_set5 HB2.out (Nat.le_refl _) (.int .u8 0) (.int .i64 0) (.int .i64 0) (.int .i64 0) (.int .i64 0)))
        generalize World.setCell _ _ _ = WF at HF ⊢
        obtain ⟨⟨g0, g1, g2, g3, g4⟩, _⟩ := HF.out.1.fives
        exact bodyPost_ret (v := .tuple #[zero5, .bool false]) (by simp [results, Tryd.results43, go_sem, zero5, g0, g1, g2, g3, g4]) rfl (HR.out _ HF.out.2)
      · have hsp : splitL s = x :: ws := by
          rcases hwd with e | ⟨h5, _⟩
          · exact e.symm
          · simp at h5; omega
        have hrd : readI s = (match rdL (clsL op) ws with
          | none => none
          | some vs => if vIns (mkI op vs) = true then some (mkI op vs) else none) := by rw [readI_of hsp, ho]
        have HRD := Lib.hid hrd
        have hne2 : (((x :: ws).length : Int) != (bs (clsL op)).size + 1) = false := by simp; omega
        have hlw : ((x :: ws).length : Int) = ws.length + 1 := by simp
        have hxs : ∀ y ∈ ws, y.length ≤ s.length := fun y hy => hxl y (by simp [hy])
        clear hrd hwd hxl
        go_wp2_with fail
        refine HOP.out.mono ?_
        rintro e w2 ⟨rfl, hb2⟩
        have HR2 := Lib.hid (HRB1.out.below hb2)
        have HB2 := Lib.hid (below_step HB1.out HB1.out.size hb2)
        have HS2 := Lib.hid (HSt.out.mono hb2)
        have hgX : gW < w2.heap.size := block_lt_of_cell (below_cell hb2 hc0)
        clear hb2 hc0 HSt HRB1 HB1 HOP
        rw [show ((some op : Option Nat).getD 0) = op from rfl, show (some op : Option Nat).isSome = true from rfl]
        have bx := below_box w2 (Obj.cells #[.int .i64 0, .int .i64 0, .int .i64 0, .int .i64 0] 68)
        go_wp2_with (go_at_call 30; refine (classes_any op (by omega) _).mono ?_; rintro e w3 ⟨rfl, rfl⟩)
        have HR0 := Lib.hid (show InR w (w2.alloc (Obj.cells #[.int .i64 0, .int .i64 0, .int .i64 0, .int .i64 0] 68)) w.heap.size w2.heap.size gW x (clsL op) ws 0 [] from
          ⟨HS2.out.mono bx, HR2.out.below bx, bx_new w2 _ _, below_step HB2.out HB2.out.size bx, by
            rw [List.drop_zero, List.drop_zero]
            cases rdL (clsL op) ws with
            | none => rfl
            | some p => rfl⟩)
        have hRX : w.heap.size < w2.heap.size := HR2.out.lt
        clear bx HS2 HR2 HB2
        generalize w2.alloc _ = W2 at HR0 ⊢
        generalize w2.heap.size = gX at HR0 hRX hgX ⊢
        go_loopw [35] (fun i wr => ∃ (j : Nat) (vs : List Int), j ≤ (clsL op).length ∧ vs.length = j ∧ i = .int .i64 j ∧ Hid (InR w wr w.heap.size gX gW x (clsL op) ws j vs)) (fun i _ => (clsL op).length - (intOf i).toNat)
        case atStart => exact ⟨0, [], by omega, rfl, rfl, HR0⟩
        case round =>
          obtain ⟨j, vs, hj, hvs, rfl, hd⟩ := hrel
          by_cases hjn : j < (clsL op).length
          · have hjs : j < (bs (clsL op)).size := by omega
            have hjw : j < ws.length := by omega
            have s1 : (0 : Int) ≤ j := by omega
            have s2 : (j : Int) < 4 := by omega
            have s3 : (j : Int) < (bs (clsL op)).size := by omega
            have s4 : (j : Int) + 1 < (x :: ws).length := by omega
            have s5 : (0 : Int) ≤ (j : Int) + 1 := by omega
            have s6 : IntKind.i64.wrap ((j : Int) + 1) = (j : Int) + 1 := by rw [IntKind.wrap_i64]; omega
            have s7 : (j : Int) < (clsL op).length := by omega
            have s8 : ((j : Int) + 1).toNat = j + 1 := by omega
            have hcg := bs_get (clsL op) hjs
            have hcd : (clsL op).drop j = (clsL op).getD j 0 :: (clsL op).drop (j + 1) := by
              rw [List.drop_eq_getElem_cons hjn, List.getD_eq_getElem?_getD, List.getElem?_eq_getElem hjn]; rfl
            have hwdr : ws.drop j = ws[j] :: ws.drop (j + 1) := List.drop_eq_getElem_cons hjw
            obtain ⟨_, _, ea, hc1⟩ := hd.out.1 (j + 1) (bs ws[j]) (by simp [List.getElem?_eq_getElem hjw])
            cases ea
            rw [Nat.zero_add] at hc1
            have HB := Lib.hid (belowDrawn hd.out.2.2.2.1)
            have HO := Lib.hid (operand_any ((bs (clsL op))[j]'hjs) ws[j] wr.drew (by have := hxs _ (List.getElem_mem hjw); omega) (HTS.out.2.1.mono HB.out) (HTS.out.2.2.below HB.out))
            have hRD := hd.out.2.2.2.2
            rw [hcd, ← hcg, hwdr] at hRD
            have hxc : ∃ u, (vals4 vs)[j]? = some u := ⟨_, Array.getElem?_eq_getElem (show j < (vals4 vs).size from by simp [vals4]; omega)⟩
            obtain ⟨ux, hux⟩ := hxc
            have hRb := Lib.hid (show Bx wr.drew w.heap.size _ from hd.out.2.1)
            have hXb := Lib.hid (show Bx wr.drew gX (vals4 vs) from hd.out.2.2.1)
            have hSb := Lib.hid (show StrsAt wr.drew (some ⟨gW, 0, none⟩) ((x :: ws).map bs) from hd.out.1)
            clear hcg hcd hwdr hd
            generalize ws[j] = y at *
            cases hrw : rdW ((bs (clsL op))[j]'hjs) y with
            | none =>
              have HR := Lib.hid (fun (w' : World) (hb : Below w.heap.size w w') => show RetI s w (.returned (.tuple #[zero5, .bool false])) w' from ⟨hb, by rw [HRD.out, hRD, rdL_bad hrw]; exact ⟨⟨0, 0, 0, 0, 0⟩, rfl⟩⟩)
              clear hRD
              go_upto_region 10 with fail
              go_region_law (first
                | (go_simp; go_at_call 66; refine HO.out.mono ?_; rintro e w3 ⟨hb3, he⟩; rw [hrw] at he; obtain ⟨v, rfl⟩ := he; have x0 := (hXb.out.below hb3).cell hux; have x1 := (hXb.out.below hb3).free j; have hR4 := Lib.hid ((hRb.out.below hb3).fr (Fr.of_set w3 ⟨gX, j, none⟩ (.int .i64 v)) (by simp; omega)); have hB4 := Lib.hid ((below_step HB.out HB.out.size hb3).setCell (p := ⟨gX, j, none⟩) (by simp; omega) (.int .i64 v)); obtain ⟨⟨y0, y1, y2, y3, y4⟩, f0, f1, f2, f3, f4⟩ := hR4.out.fives)
                | fail)
              all_goals
                go_wp2_with fail
                have HF := Lib.hid (And.intro (hR4.out.set5 (.int .u8 0) (.int .i64 0) (.int .i64 0) (.int .i64 0) (.int .i64 0)) (below_set5 hB4.out (Nat.le_refl _) (.int .u8 0) (.int .i64 0) (.int .i64 0) (.int .i64 0) (.int .i64 0)))
                generalize World.setCell _ _ _ = WF at HF ⊢
                obtain ⟨⟨g0, g1, g2, g3, g4⟩, _⟩ := HF.out.1.fives
                exact bodyPost_ret (v := .tuple #[zero5, .bool false]) (by simp [results, Tryd.results43, go_sem, zero5, g0, g1, g2, g3, g4]) rfl (HR.out _ HF.out.2)
            | some v =>
              have hrd2 : rdL (clsL op) ws = (rdL ((clsL op).drop (j + 1)) (ws.drop (j + 1))).map fun p => (vs ++ [v]) ++ p := by
                rw [hRD, rdL_step hrw]
                cases rdL ((clsL op).drop (j + 1)) (ws.drop (j + 1)) with
                | none => rfl
                | some p => simp
              have HRD2 := Lib.hid hrd2
              clear hRD hrd2
              go_upto_region 10 with fail
              go_region_law (first
                | (go_simp; go_at_call 66; refine HO.out.mono ?_; rintro e w3 ⟨hb3, he⟩; rw [hrw] at he; subst he; have x0 := (hXb.out.below hb3).cell hux; have x1 := (hXb.out.below hb3).free j)
                | fail)
              all_goals
                go_wp2_with fail
                have HN := Lib.hid (show InR w _ w.heap.size gX gW x (clsL op) ws (j + 1) (vs ++ [v]) from ⟨(hSb.out.mono hb3).fr (Fr.of_set w3 ⟨gX, j, none⟩ (.int .i64 v)) (by simp; omega), (hRb.out.below hb3).fr (Fr.of_set w3 ⟨gX, j, none⟩ (.int .i64 v)) (by simp; omega), by have h := (hXb.out.below hb3).set j (.int .i64 v); rw [vals4_set hvs (by omega)] at h; exact h, (below_step HB.out HB.out.size hb3).setCell (p := ⟨gX, j, none⟩) (by simp; omega) _, HRD2.out⟩)
                exact ⟨⟨j + 1, _, by omega, by simp; omega, by go_num, HN⟩, by simp [intOf]; omega⟩
          · obtain rfl : j = (clsL op).length := by omega
            have hRD := hd.out.2.2.2.2
            rw [List.drop_length, ← hlen, List.drop_length] at hRD
            have hRD2 : readI s = if vIns (mkI op vs) = true then some (mkI op vs) else none := by
              rw [HRD.out, hRD]; simp [rdL]
            have hRb := Lib.hid hd.out.2.1
            have hBb := Lib.hid hd.out.2.2.2.1
            have hTb := Lib.hid (HTS.out.1.mono hBb.out)
            obtain ⟨x0, x1, x2, x3, _⟩ := Bx.four (show Bx wr gX #[.int .i64 (vs.getD 0 0), .int .i64 (vs.getD 1 0), .int .i64 (vs.getD 2 0), .int .i64 (vs.getD 3 0)] from hd.out.2.2.1)
            have HV : Hid (∀ w5, Tab w5 → Calls Tryd.prog 20 #[.agg #[.int .u8 op, .int .i64 (vs.getD 0 0), .int .i64 (vs.getD 1 0), .int .i64 (vs.getD 2 0), .int .i64 (vs.getD 3 0)]] w5 fun e w' => e = .returned (.bool (vIns (mkI op vs))) ∧ Below w5.heap.size w5 w') := fun w5 h5 => valid_any op (by omega) _ _ _ _ w5 h5
            have HR : Hid (∀ w', Below w.heap.size w w' → RetI s w (.returned (.tuple #[(mkI op vs).val, .bool (vIns (mkI op vs))])) w') := fun w' hb => by
              refine ⟨hb, ?_⟩
              rw [hRD2]
              by_cases hv : vIns (mkI op vs) = true
              · rw [if_pos hv, hv]; exact ⟨show op < 256 by omega, rfl⟩
              · rw [if_neg hv, (by simpa using hv : vIns (mkI op vs) = false)]; exact ⟨_, rfl⟩
            have HM := Lib.hid (show (mkI op vs).val = .agg #[.int .u8 op, .int .i64 (vs.getD 0 0), .int .i64 (vs.getD 1 0), .int .i64 (vs.getD 2 0), .int .i64 (vs.getD 3 0)] from rfl)
            rw [HM.out] at HR
            clear hRD hRD2 hd HM HRD
            generalize vs.getD 0 0 = v0 at *
            generalize vs.getD 1 0 = v1 at *
            generalize vs.getD 2 0 = v2 at *
            generalize vs.getD 3 0 = v3 at *
            generalize vIns (mkI op vs) = bv at *
            have hba := below_box wr (Obj.cells #[.int .u8 op, .int .i64 v0, .int .i64 v1, .int .i64 v2, .int .i64 v3] 43)
            have hNb := Lib.hid (bx_new wr #[.int .u8 op, .int .i64 v0, .int .i64 v1, .int .i64 v2, .int .i64 v3] 43)
            have hR5 := Lib.hid (hRb.out.below hba)
            have hB5 := Lib.hid (belowDrawn (below_step hBb.out hBb.out.size hba))
            have hT5 := Lib.hid (hTb.out.mono hba)
            go_upto_region 15 with fail
            clear hba
            generalize wr.alloc _ = W5 at hNb hT5 hR5 hB5 ⊢
            have HVc := Lib.hid (HV.out W5.drew hT5.out)
            have hNd := Lib.hid (show Bx W5.drew wr.heap.size _ from hNb.out)
            have hRd := Lib.hid (show Bx W5.drew w.heap.size _ from hR5.out)
            obtain ⟨p0, p1, p2, p3, p4, _⟩ := hNb.out.five
            generalize wr.heap.size = gN at *
            go_region_law (first
              | (go_simp; go_at_call 20; refine HVc.out.mono ?_; rintro e w6 ⟨rfl, hb6⟩; have HB6 := Lib.hid (below_step hB5.out hB5.out.size hb6); have HR6 := Lib.hid (hRd.out.below hb6); obtain ⟨⟨y0, y1, y2, y3, y4⟩, f0, f1, f2, f3, f4⟩ := HR6.out.fives; obtain ⟨n0, n1, n2, n3, n4, _⟩ := (hNd.out.below hb6).five)
              | fail)
            all_goals
              go_wp2_with fail
              have HF := Lib.hid (And.intro (HR6.out.set5 (.int .u8 op) (.int .i64 v0) (.int .i64 v1) (.int .i64 v2) (.int .i64 v3)) (below_set5 HB6.out (Nat.le_refl _) (.int .u8 op) (.int .i64 v0) (.int .i64 v1) (.int .i64 v2) (.int .i64 v3)))
              generalize World.setCell _ _ _ = WF at HF ⊢
              obtain ⟨⟨g0, g1, g2, g3, g4⟩, _⟩ := HF.out.1.fives
              exact bodyPost_ret (v := .tuple #[.agg #[.int .u8 op, .int .i64 v0, .int .i64 v1, .int .i64 v2, .int .i64 v3], .bool bv]) (by simp [results, Tryd.results43, go_sem, g0, g1, g2, g3, g4]) rfl (HR.out _ HF.out.2)

end Go.Proofs.YtodiijoeeeeicaaDoor

/-
  The contract of asm.decode.
-/
import Derived.Test.YtodiijoeeeeicaaDoorAsmTake
import Derived.Test.YtodiijoeeeeicaaDoorAsmB2
import Derived.Deep.DeepCutAuto
namespace Go.Proofs.YtodiijoeeeeicaaDoor
open Go.ChangeShapes Go.WideShapes Go.ChangeAt Go.RowKit Go.Sort

theorem Bx.fives {w : World} {b : Nat} {u0 u1 u2 u3 u4 : Value} (h : Bx w b #[u0, u1, u2, u3, u4]) : (w.cell? ⟨b, 0, none⟩ = some u0 ∧ w.cell? ⟨b, 1, none⟩ = some u1 ∧ w.cell? ⟨b, 2, none⟩ = some u2 ∧ w.cell? ⟨b, 3, none⟩ = some u3 ∧ w.cell? ⟨b, 4, none⟩ = some u4) ∧ w.frozen? ⟨b, 0, none⟩ = false ∧ w.frozen? ⟨b, 1, none⟩ = false ∧ w.frozen? ⟨b, 2, none⟩ = false ∧ w.frozen? ⟨b, 3, none⟩ = false ∧ w.frozen? ⟨b, 4, none⟩ = false :=
  ⟨⟨h.cell rfl, h.cell rfl, h.cell rfl, h.cell rfl, h.cell rfl⟩, h.free 0, h.free 1, h.free 2, h.free 3, h.free 4⟩
theorem below_set5 {B : Nat} {a w : World} (h : Below B a w) {b : Nat} (hb : B ≤ b) (v0 v1 v2 v3 v4 : Value) : Below B a (((((w.setCell ⟨b, 0, none⟩ v0).setCell ⟨b, 1, none⟩ v1).setCell ⟨b, 2, none⟩ v2).setCell ⟨b, 3, none⟩ v3).setCell ⟨b, 4, none⟩ v4) := (below_set4 h hb v0 v1 v2 v3).setCell (p := ⟨b, 4, none⟩) hb v4
theorem Bx.set5 {w : World} {b : Nat} {u0 u1 u2 u3 u4 : Value} (h : Bx w b #[u0, u1, u2, u3, u4]) (v0 v1 v2 v3 v4 : Value) : Bx (((((w.setCell ⟨b, 0, none⟩ v0).setCell ⟨b, 1, none⟩ v1).setCell ⟨b, 2, none⟩ v2).setCell ⟨b, 3, none⟩ v3).setCell ⟨b, 4, none⟩ v4) b #[v0, v1, v2, v3, v4] :=
  ((((h.set 0 v0).set 1 v1).set 2 v2).set 3 v3).set 4 v4
theorem rdB_step {c : UInt8} {cs : List UInt8} {b : List UInt8} (h : ¬ b.length < wid c) : rdB (c :: cs) b = (rdB cs (b.drop (wid c))).map fun p => (getV (b.take (wid c)) :: p.1, p.2) := by
  rw [rdB, if_neg h]
  cases rdB cs (b.drop (wid c)) with
  | none => rfl
  | some p => obtain ⟨vs, r⟩ := p; rfl
/-- The operands read so far, as the array holds them. -/
def vals4 (vs : List Int) : Array Value := #[.int .i64 (vs.getD 0 0), .int .i64 (vs.getD 1 0), .int .i64 (vs.getD 2 0), .int .i64 (vs.getD 3 0)]
theorem vals4_set {vs : List Int} {j : Nat} (hj : vs.length = j) (h4 : j < 4) (v : Int) : (vals4 vs).setIfInBounds j (.int .i64 v) = vals4 (vs ++ [v]) := by
  subst hj
  match vs, h4 with
  | [], _ => rfl
  | [_], _ => rfl
  | [_, _], _ => rfl
  | [_, _, _], _ => rfl
def zero5 : Value := .agg #[.int .u8 0, .int .i64 0, .int .i64 0, .int .i64 0, .int .i64 0]
/-- What decode hands back. -/
def RetD (W0 : World) (b : List UInt8) (w : World) (e : Ending) (w' : World) : Prop :=
  Below w.heap.size w w' ∧ match decI b with
    | .err c => e = .returned (.tuple #[zero5, .slice none 0 0, .int .i64 c])
    | .ok x r => x.op < 256 ∧ ∃ A cap, r.length ≤ cap ∧ e = .returned (.tuple #[x.val, .slice A r.length cap, .int .i64 0]) ∧ BysAt W0 A r
/-- Where the loop stands. -/
def DecR (W0 w wr : World) (R X : Nat) (cs b : List UInt8) (j : Nat) (vs : List Int) (r : List UInt8) (A : Option Addr) (c : Nat) : Prop :=
  r.length ≤ c ∧ BysAt W0 A r ∧ Bx wr R #[.int .u8 0, .int .i64 0, .int .i64 0, .int .i64 0, .int .i64 0] ∧ Bx wr X (vals4 vs) ∧ Below w.heap.size w wr ∧ rdB cs b = (rdB (cs.drop j) r).map fun p => (vs ++ p.1, p.2)
set_option maxRecDepth 100000 in
set_option maxHeartbeats 4000000 in
theorem decode1_any (l : List UInt8) (A : Option Addr) (cap : Nat) (W0 w : World) (hL : BysAt W0 A l) (hW : Below W0.heap.size W0 w) (hcap : l.length ≤ cap) (hT : Tab w) :
    Calls Tryd.prog 51 #[.slice A l.length cap] w (RetD W0 l w) := by
  have hbR := below_box w (Obj.cells #[.int .u8 0, .int .i64 0, .int .i64 0, .int .i64 0, .int .i64 0] 43)
  have HBR := Lib.hid hbR
  have HRB := Lib.hid (bx_new w #[.int .u8 0, .int .i64 0, .int .i64 0, .int .i64 0, .int .i64 0] 43)
  have HT := Lib.hid (hT.mono hbR)
  have HTw := Lib.hid hT
  have HC := Lib.hid (take_any W0 l A cap 1 (w.alloc (Obj.cells #[.int .u8 0, .int .i64 0, .int .i64 0, .int .i64 0, .int .i64 0] 43)) hL (below_step hW hW.size hbR) hcap (by omega) (by omega))
  have HW := Lib.hid hW
  clear hL hT hbR hW
  go_enter Tryd.func51, Tryd.ntmps51
  cases l with
  | nil =>
    have HR := Lib.hid (fun (w' : World) (hb : Below w.heap.size w w') => show RetD W0 [] w (.returned (.tuple #[zero5, .slice none 0 0, .int .i64 4])) w' from ⟨hb, rfl⟩)
    go_wp2_with fail
    generalize w.alloc _ = W at HBR HRB HT HC ⊢
    refine HC.out.mono ?_
    rintro e w1 ⟨hb1, he⟩
    rw [if_pos (by simp)] at he
    subst he
    have HB1 := Lib.hid (below_step HBR.out HBR.out.size hb1)
    obtain ⟨⟨e0, e1, e2, e3, e4⟩, f0, f1, f2, f3, f4⟩ := (HRB.out.below hb1).fives
    go_wp2_with fail
    have HF := Lib.hid (And.intro ((HRB.out.below hb1).set5 (.int .u8 0) (.int .i64 0) (.int .i64 0) (.int .i64 0) (.int .i64 0)) (below_set5 HB1.out (Nat.le_refl _) (.int .u8 0) (.int .i64 0) (.int .i64 0) (.int .i64 0) (.int .i64 0)))
    generalize World.setCell _ _ _ = WF at HF ⊢
    obtain ⟨⟨g0, g1, g2, g3, g4⟩, _⟩ := HF.out.1.fives
    exact bodyPost_ret (v := .tuple #[zero5, .slice none 0 0, .int .i64 4]) (by simp [results, Tryd.results51, go_sem, zero5, g0, g1, g2, g3, g4]) rfl (HR.out _ HF.out.2)
  | cons op b =>
    have HC2 : Hid (Calls Tryd.prog 50 #[.slice A (op :: b).length cap, .int .i64 1] (w.alloc (Obj.cells #[.int .u8 0, .int .i64 0, .int .i64 0, .int .i64 0, .int .i64 0] 43)) fun e w' => Below (w.alloc (Obj.cells #[.int .u8 0, .int .i64 0, .int .i64 0, .int .i64 0, .int .i64 0] 43)).heap.size (w.alloc (Obj.cells #[.int .u8 0, .int .i64 0, .int .i64 0, .int .i64 0, .int .i64 0] 43)) w' ∧ ∃ A1, e = .returned (.tuple #[.int .i64 op.toNat, .slice A1 b.length (cap - 1), .bool true]) ∧ BysAt W0 A1 b) := by
      refine HC.out.mono ?_
      rintro e w1 ⟨h1, h2⟩
      rw [if_neg (by simp)] at h2
      obtain ⟨A1, rfl, h3⟩ := h2
      refine ⟨h1, A1, ?_, by simpa using h3⟩
      rw [show getV ((op :: b).take 1) = op.toNat by
        have := op.toNat_lt
        unfold getV valB
        simp
        omega]
      simp
    clear HC
    have hop := op.toNat_lt
    have r0 : (0 : Int) ≤ op.toNat := by omega
    by_cases h35 : 35 ≤ op.toNat
    · have HR := Lib.hid (fun (w' : World) (hb : Below w.heap.size w w') => show RetD W0 (op :: b) w (.returned (.tuple #[zero5, .slice none 0 0, .int .i64 3])) w' from ⟨hb, by unfold decI; simp only; rw [if_pos h35]⟩)
      go_wp2_with fail
      generalize w.alloc _ = W at HBR HRB HT HC2 ⊢
      refine HC2.out.mono ?_
      rintro e w1 ⟨hb1, A1, rfl, _⟩
      have HB1 := Lib.hid (below_step HBR.out HBR.out.size hb1)
      obtain ⟨⟨e0, e1, e2, e3, e4⟩, f0, f1, f2, f3, f4⟩ := (HRB.out.below hb1).fives
      go_wp2_with fail
      have HF := Lib.hid (And.intro ((HRB.out.below hb1).set5 (.int .u8 0) (.int .i64 0) (.int .i64 0) (.int .i64 0) (.int .i64 0)) (below_set5 HB1.out (Nat.le_refl _) (.int .u8 0) (.int .i64 0) (.int .i64 0) (.int .i64 0) (.int .i64 0)))
      generalize World.setCell _ _ _ = WF at HF ⊢
      obtain ⟨⟨g0, g1, g2, g3, g4⟩, _⟩ := HF.out.1.fives
      exact bodyPost_ret (v := .tuple #[zero5, .slice none 0 0, .int .i64 3]) (by simp [results, Tryd.results51, go_sem, zero5, g0, g1, g2, g3, g4]) rfl (HR.out _ HF.out.2)
    · have hm : (op.toNat : Int) % 256 = op.toNat := by omega
      go_wp2_with fail
      generalize w.alloc _ = W at HBR HRB HT HC2 ⊢
      refine HC2.out.mono ?_
      rintro e w1 ⟨hb1, A1, rfl, hB1⟩
      have HB1 := Lib.hid (below_step HBR.out HBR.out.size hb1)
      have HRB1 := Lib.hid (HRB.out.below hb1)
      have HT1 := Lib.hid (HT.out.mono hb1)
      have HBY := Lib.hid hB1
      clear hb1 hB1 HRB HT HBR HC2
      have bx := below_box w1 (Obj.cells #[.int .i64 0, .int .i64 0, .int .i64 0, .int .i64 0] 68)
      go_wp2_with (go_at_call 30; refine (classes_any op.toNat (by omega) _).mono ?_; rintro e w2 ⟨rfl, rfl⟩)
      have HR0 := Lib.hid (show DecR W0 w (w1.alloc (Obj.cells #[.int .i64 0, .int .i64 0, .int .i64 0, .int .i64 0] 68)) w.heap.size w1.heap.size (clsL op.toNat) b 0 [] b A1 (cap - 1) from
        ⟨by simp at hcap; omega, HBY.out, HRB1.out.below bx, bx_new w1 _ _, below_step HB1.out HB1.out.size bx, by
          rw [List.drop_zero]
          cases rdB (clsL op.toNat) b with
          | none => rfl
          | some p => rfl⟩)
      have hT2 := Lib.hid (HT1.out.mono bx)
      have hRX : w.heap.size < w1.heap.size := HRB1.out.lt
      have hsz8 := bs_size (clsL op.toNat)
      have hcl := (clsL_len op.toNat).2
      have hB2 := Lib.hid (below_step HB1.out HB1.out.size bx)
      clear bx HBY HRB1 HT1
      generalize w1.alloc _ = W2 at HR0 hT2 hB2 ⊢
      go_loopw [0, 28] (fun v i wr => ∃ (j : Nat) (vs : List Int) (r : List UInt8) (Ar : Option Addr) (cr : Nat), j ≤ (clsL op.toNat).length ∧ vs.length = j ∧ i = .int .i64 j ∧ v = .slice Ar r.length cr ∧ Hid (DecR W0 w wr w.heap.size w1.heap.size (clsL op.toNat) b j vs r Ar cr)) (fun _ i _ => (clsL op.toNat).length - (intOf i).toNat)
      case atStart => exact ⟨0, [], b, A1, cap - 1, by omega, rfl, rfl, rfl, HR0⟩
      case round =>
        obtain ⟨j, vs, r, Ar, cr, hj, hvs, rfl, rfl, hd⟩ := hrel
        by_cases hjn : j < (clsL op.toNat).length
        · have hb := hd.out.2.2.2.2.1
          have hjs : j < (bs (clsL op.toNat)).size := by omega
          have s1 : (0 : Int) ≤ j := by omega
          have s2 : (j : Int) < 4 := by omega
          have s3 : (j : Int) < (bs (clsL op.toNat)).size := by omega
          have hcg := bs_get (clsL op.toNat) hjs
          have hcd : (clsL op.toNat).drop j = (clsL op.toNat).getD j 0 :: (clsL op.toNat).drop (j + 1) := by
            rw [List.drop_eq_getElem_cons hjn, List.getD_eq_getElem?_getD, List.getElem?_eq_getElem hjn]; rfl
          have hw1 : 1 ≤ wid ((bs (clsL op.toNat))[j]'hjs) ∧ wid ((bs (clsL op.toNat))[j]'hjs) ≤ 8 := by rcases wid_cases ((bs (clsL op.toNat))[j]'hjs) with e | e | e <;> omega
          have HTK := Lib.hid (take_any W0 r Ar cr (wid ((bs (clsL op.toNat))[j]'hjs)) wr hd.out.2.1 (below_step HW.out HW.out.size hb) hd.out.1 hw1.2 hw1.1)
          have hRD := hd.out.2.2.2.2.2
          rw [hcd, ← hcg] at hRD
          have hxc : ∃ u, (vals4 vs)[j]? = some u := ⟨_, Array.getElem?_eq_getElem (show j < (vals4 vs).size from by simp [vals4]; omega)⟩
          obtain ⟨ux, hux⟩ := hxc
          have hRb := Lib.hid hd.out.2.2.1
          have hXb := Lib.hid hd.out.2.2.2.1
          have hBb := Lib.hid hb
          clear hcg hcd hw1 hb
          by_cases hs : r.length < wid ((bs (clsL op.toNat))[j]'hjs)
          · have HR := Lib.hid (fun (w' : World) (hb : Below w.heap.size w w') => show RetD W0 (op :: b) w (.returned (.tuple #[zero5, .slice none 0 0, .int .i64 4])) w' from ⟨hb, by unfold decI; simp only; rw [if_neg h35, hRD, rdB, if_pos hs]; rfl⟩)
            go_wp2_with (first
              | (go_at_call 37; refine (width_any _ _).mono ?_; rintro e w3 ⟨rfl, rfl⟩)
              | (go_at_call 50; refine HTK.out.mono ?_; rintro e w3 ⟨hb3, he⟩; rw [if_pos hs] at he; subst he; have x0 := (hXb.out.below hb3).cell hux; have x1 := (hXb.out.below hb3).free j; have hR4 := Lib.hid ((hRb.out.below hb3).fr (Fr.of_set w3 ⟨w1.heap.size, j, none⟩ (.int .i64 0)) (by simp; omega)); have hB4 := Lib.hid ((below_step hBb.out hBb.out.size hb3).setCell (p := ⟨w1.heap.size, j, none⟩) (by simp; omega) (.int .i64 0)); obtain ⟨⟨y0, y1, y2, y3, y4⟩, f0, f1, f2, f3, f4⟩ := hR4.out.fives))
            have HF := Lib.hid (And.intro (hR4.out.set5 (.int .u8 0) (.int .i64 0) (.int .i64 0) (.int .i64 0) (.int .i64 0)) (below_set5 hB4.out (Nat.le_refl _) (.int .u8 0) (.int .i64 0) (.int .i64 0) (.int .i64 0) (.int .i64 0)))
            generalize World.setCell _ _ _ = WF at HF ⊢
            obtain ⟨⟨g0, g1, g2, g3, g4⟩, _⟩ := HF.out.1.fives
            exact bodyPost_ret (v := .tuple #[zero5, .slice none 0 0, .int .i64 4]) (by simp [results, Tryd.results51, go_sem, zero5, g0, g1, g2, g3, g4]) rfl (HR.out _ HF.out.2)
          · have hrd : rdB (clsL op.toNat) b = (rdB ((clsL op.toNat).drop (j + 1)) (r.drop (wid ((bs (clsL op.toNat))[j]'hjs)))).map fun p => ((vs ++ [getV (r.take (wid ((bs (clsL op.toNat))[j]'hjs)))]) ++ p.1, p.2) := by
              rw [hRD, rdB_step hs]
              cases rdB ((clsL op.toNat).drop (j + 1)) (r.drop (wid ((bs (clsL op.toNat))[j]'hjs))) with
              | none => rfl
              | some p => simp
            have HRD := Lib.hid hrd
            have hlc := hd.out.1
            clear hRD hrd hd
            go_wp2_with (first
              | (go_at_call 37; refine (width_any _ _).mono ?_; rintro e w3 ⟨rfl, rfl⟩)
              | (go_at_call 50; refine HTK.out.mono ?_; rintro e w3 ⟨hb3, he⟩; rw [if_neg hs] at he; obtain ⟨A3, rfl, hB3⟩ := he; have x0 := (hXb.out.below hb3).cell hux; have x1 := (hXb.out.below hb3).free j))
            have HN := Lib.hid (show DecR W0 w _ w.heap.size w1.heap.size (clsL op.toNat) b (j + 1) _ (r.drop (wid ((bs (clsL op.toNat))[j]'hjs))) A3 (cr - wid ((bs (clsL op.toNat))[j]'hjs)) from ⟨by rw [List.length_drop]; omega, hB3, (hRb.out.below hb3).fr (Fr.of_set w3 ⟨w1.heap.size, j, none⟩ (.int .i64 (getV (r.take (wid ((bs (clsL op.toNat))[j]'hjs)))))) (by simp; omega), by have h := (hXb.out.below hb3).set j (.int .i64 (getV (r.take (wid ((bs (clsL op.toNat))[j]'hjs))))); rw [vals4_set hvs (by omega)] at h; exact h, (below_step hBb.out hBb.out.size hb3).setCell (p := ⟨w1.heap.size, j, none⟩) (by simp; omega) _, HRD.out⟩)
            go_roundw
            case rel =>
              (repeat apply Exists.intro)
              exact ⟨⟨j + 1, _, _, A3, _, by omega, by simp; omega, by go_num, by rw [List.length_drop], HN⟩, rfl⟩
            case measure => simp [intOf]; omega
        · obtain rfl : j = (clsL op.toNat).length := by omega
          have hRD := hd.out.2.2.2.2.2
          rw [List.drop_length] at hRD
          have hRD2 : rdB (clsL op.toNat) b = some (vs, r) := by rw [hRD]; simp [rdB]
          have hRb := Lib.hid hd.out.2.2.1
          have hBb := Lib.hid hd.out.2.2.2.2.1
          have hTb := Lib.hid (HTw.out.mono hBb.out)
          have hBY := Lib.hid hd.out.2.1
          have hlc := hd.out.1
          obtain ⟨x0, x1, x2, x3, _⟩ := Bx.four (show Bx wr w1.heap.size #[.int .i64 (vs.getD 0 0), .int .i64 (vs.getD 1 0), .int .i64 (vs.getD 2 0), .int .i64 (vs.getD 3 0)] from hd.out.2.2.2.1)
          have HV : Hid (∀ w5, Tab w5 → Calls Tryd.prog 20 #[.agg #[.int .u8 op.toNat, .int .i64 (vs.getD 0 0), .int .i64 (vs.getD 1 0), .int .i64 (vs.getD 2 0), .int .i64 (vs.getD 3 0)]] w5 fun e w' => e = .returned (.bool (vIns (mkI op.toNat vs))) ∧ Below w5.heap.size w5 w') := fun w5 h5 => valid_any op.toNat (by omega) _ _ _ _ w5 h5
          have hdec : decI (op :: b) = if vIns (mkI op.toNat vs) = true then .ok (mkI op.toNat vs) r else .err 3 := by unfold decI; simp only; rw [if_neg h35, hRD2]
          have HR : Hid (∀ w', Below w.heap.size w w' → RetD W0 (op :: b) w (.returned (if vIns (mkI op.toNat vs) = true then .tuple #[(mkI op.toNat vs).val, .slice Ar r.length cr, .int .i64 0] else .tuple #[zero5, .slice none 0 0, .int .i64 3])) w') := fun w' hb => by
            refine ⟨hb, ?_⟩
            rw [hdec]
            by_cases hv : vIns (mkI op.toNat vs) = true
            · rw [if_pos hv, if_pos hv]; exact ⟨hop, Ar, cr, hlc, rfl, hBY.out⟩
            · rw [if_neg hv, if_neg hv]
          have HM := Lib.hid (show (mkI op.toNat vs).val = .agg #[.int .u8 op.toNat, .int .i64 (vs.getD 0 0), .int .i64 (vs.getD 1 0), .int .i64 (vs.getD 2 0), .int .i64 (vs.getD 3 0)] from rfl)
          rw [HM.out] at HR
          clear hdec hRD hRD2 hd HM
          generalize vs.getD 0 0 = v0 at *
          generalize vs.getD 1 0 = v1 at *
          generalize vs.getD 2 0 = v2 at *
          generalize vs.getD 3 0 = v3 at *
          generalize vIns (mkI op.toNat vs) = bv at *
          have hba := below_box wr (Obj.cells #[.int .u8 op.toNat, .int .i64 v0, .int .i64 v1, .int .i64 v2, .int .i64 v3] 43)
          have hNb := Lib.hid (bx_new wr #[.int .u8 op.toNat, .int .i64 v0, .int .i64 v1, .int .i64 v2, .int .i64 v3] 43)
          have HVc := Lib.hid (HV.out _ (hTb.out.mono hba))
          have hR5 := Lib.hid (hRb.out.below hba)
          have hB5 := Lib.hid (below_step hBb.out hBb.out.size hba)
          go_wp2_with (go_at_call 20; fail)
          clear hba
          generalize wr.alloc _ = W5 at hNb HVc hR5 hB5 ⊢
          refine HVc.out.mono ?_
          rintro e w6 ⟨rfl, hb6⟩
          have HB6 := Lib.hid (below_step hB5.out hB5.out.size hb6)
          have HR6 := Lib.hid (hR5.out.below hb6)
          obtain ⟨⟨y0, y1, y2, y3, y4⟩, f0, f1, f2, f3, f4⟩ := HR6.out.fives
          obtain ⟨n0, n1, n2, n3, n4, _⟩ := (hNb.out.below hb6).five
          cases bv with
          | false =>
            go_wp2_with fail
            have HF := Lib.hid (And.intro (HR6.out.set5 (.int .u8 0) (.int .i64 0) (.int .i64 0) (.int .i64 0) (.int .i64 0)) (below_set5 HB6.out (Nat.le_refl _) (.int .u8 0) (.int .i64 0) (.int .i64 0) (.int .i64 0) (.int .i64 0)))
            generalize World.setCell _ _ _ = WF at HF ⊢
            obtain ⟨⟨g0, g1, g2, g3, g4⟩, _⟩ := HF.out.1.fives
            exact bodyPost_ret (v := .tuple #[zero5, .slice none 0 0, .int .i64 3]) (by simp [results, Tryd.results51, go_sem, zero5, g0, g1, g2, g3, g4]) rfl (HR.out _ HF.out.2)
          | true =>
            go_wp2_with fail
            have HF := Lib.hid (And.intro (HR6.out.set5 (.int .u8 op.toNat) (.int .i64 v0) (.int .i64 v1) (.int .i64 v2) (.int .i64 v3)) (below_set5 HB6.out (Nat.le_refl _) (.int .u8 op.toNat) (.int .i64 v0) (.int .i64 v1) (.int .i64 v2) (.int .i64 v3)))
            generalize World.setCell _ _ _ = WF at HF ⊢
            obtain ⟨⟨g0, g1, g2, g3, g4⟩, _⟩ := HF.out.1.fives
            exact bodyPost_ret (v := .tuple #[.agg #[.int .u8 op.toNat, .int .i64 v0, .int .i64 v1, .int .i64 v2, .int .i64 v3], .slice Ar r.length cr, .int .i64 0]) (by simp [results, Tryd.results51, go_sem, g0, g1, g2, g3, g4]) rfl (HR.out _ HF.out.2)

end Go.Proofs.YtodiijoeeeeicaaDoor

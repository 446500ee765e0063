/-
  AsmOrder: the walk.
-/
import Derived.Test.YtodiijoeeeeicaaDoorAsmL3
import Derived.Test.YtodiijoeeeeicaaDoorAsmWrd
import Derived.Deep.RegionLaw
namespace Go.Proofs.YtodiijoeeeeicaaDoor
open Go.ChangeShapes Go.WideShapes Go.ChangeAt Go.RowKit Go.Sort

theorem check_one (x : Ins) : checkA [x] = if vIns x = true then 0 else 3 := by
  unfold checkA
  rw [if_neg (by simp)]
  simp
theorem split_line {x : Ins} (h : vIns x = true) (hf : FitI x) : splitL (lineI x) = mnem x.op :: wdsI x (clsL x.op).length := by
  unfold lineI
  exact splitL_join _ (by simp) (fun w hw b hb => by
    rcases List.mem_cons.1 hw with e | e
    · rw [e] at hb; exact (mnem_byte b hb).1
    · unfold wdsI at e
      obtain ⟨j, hj, rfl⟩ := List.mem_map.1 e
      exact (wrd_byte (valid_okW h hf (by simpa using hj)) b hb).1)
theorem bytes_one {x : Ins} (h : x.op < 256) : Bytes [x] := fun k y hk => by
  cases k with
  | zero => simp at hk; rw [← hk]; exact h
  | succ k => simp at hk
set_option maxRecDepth 100000 in
set_option maxHeartbeats 2000000 in
theorem asmOrder_walk (x : Ins) (hop : x.op < 256) (w : World) (hF : FitI x) (hT : Tab w) (hS : TabS w) (hW : Wld w) :
    Calls Tryd.prog 7 #[.agg #[.int .u8 x.op, .int .i64 x.a, .int .i64 x.b, .int .i64 x.c, .int .i64 x.d]] w fun e w' => e = .returned (.bool true) ∧ Below w.heap.size w w' := by
  have hb0 := below_box w (Obj.cells #[.int .u8 x.op, .int .i64 x.a, .int .i64 x.b, .int .i64 x.c, .int .i64 x.d] 43)
  have HX0 := Lib.hid (bx_new w #[.int .u8 x.op, .int .i64 x.a, .int .i64 x.b, .int .i64 x.c, .int .i64 x.d] 43)
  have q0 := Lib.hid hb0
  have HAW := Lib.hid (awake_any (w.alloc (Obj.cells #[.int .u8 x.op, .int .i64 x.a, .int .i64 x.b, .int .i64 x.c, .int .i64 x.d] 43)) (hT.mono hb0) (hS.mono hb0) (hW.below hb0))
  have HTS := Lib.hid (And.intro hT (And.intro hS hW))
  have HF := Lib.hid hF
  clear hT hS hW hF hb0
  go_enter Tryd.func7, Tryd.ntmps7
  go_wp2_with fail
  generalize w.alloc _ = W at HX0 q0 HAW ⊢
  refine HAW.out.mono ?_
  rintro e W1 ⟨rfl, hb1⟩
  have q1 := Lib.hid (below_step q0.out q0.out.size hb1)
  have HX1 := Lib.hid (HX0.out.below hb1)
  obtain ⟨x0, x1, x2, x3, x4, _⟩ := HX1.out.five
  have HFM := Lib.hid (format_any [x] _ 1 _ (code_new W1 43 [x] #[.int .u8 x.op, .int .i64 x.a, .int .i64 x.b, .int .i64 x.c, .int .i64 x.d] rfl) (bytes_one hop) (fun y hy => by rw [List.mem_singleton.1 hy]; exact HF.out) (HTS.out.1.mono (below_step q1.out q1.out.size (below_box W1 _))) (HTS.out.2.1.mono (below_step q1.out q1.out.size (below_box W1 _))) (HTS.out.2.2.below (below_step q1.out q1.out.size (below_box W1 _))) (by simp))
  have HBX := Lib.hid (below_box W1 (Obj.cells #[.int .u8 x.op, .int .i64 x.a, .int .i64 x.b, .int .i64 x.c, .int .i64 x.d] 43))
  clear hb1 HAW HX0 q0
  go_wp2_with fail
  generalize W1.alloc _ = W1b at HFM HBX ⊢
  refine HFM.out.mono ?_
  rintro e W2 ⟨rfl, hb2⟩
  have q2 := Lib.hid (below_step (below_step q1.out q1.out.size HBX.out) (below_step q1.out q1.out.size HBX.out).size hb2)
  have HX2 := Lib.hid ((HX1.out.below HBX.out).below hb2)
  clear x0 x1 x2 x3 x4 hb2 HBX HX1 HFM
  obtain ⟨x0, x1, x2, x3, x4, _⟩ := HX2.out.five
  have HVA := Lib.hid (valid_any x.op hop x.a x.b x.c x.d W2 (HTS.out.1.mono q2.out))
  have hvi : validB x.op x.a x.b x.c x.d = vIns x := rfl
  rw [hvi] at HVA
  rw [check_one]
  by_cases hv : vIns x = true
  rotate_left
  · rw [if_neg hv, if_neg (by decide)]
    have hvf : vIns x = false := by simpa using hv
    rw [hvf] at HVA
    have he := toL []
    go_wp2_with fail
    refine HVA.out.mono ?_
    rintro e W3 ⟨rfl, hb3⟩
    have q3 := Lib.hid (below_step q2.out q2.out.size hb3)
    go_wp2_with fail
    go_ret
    exact ⟨rfl, q3.out⟩
  · rw [if_pos hv, if_pos rfl]
    rw [hv] at HVA
    have hfm : fmtA [x] = lineI x ++ [10] := by rw [fmtA_cons]; show lineI x ++ [10] ++ [] = _; rw [List.append_nil]
    have hln := lineI_len hv HF.out
    rw [hfm]
    have hsz : (bs (lineI x ++ [10])).size = (lineI x).length + 1 := by rw [bs_size]; simp
    have hex : (bs (lineI x ++ [10])).extract 0 (lineI x).length = bs (lineI x) := by rw [bs_ext]; congr 1; simp
    have HEX := Lib.hid hex
    have hidx : (lineI x).length < (bs (lineI x ++ [10])).size := by omega
    have h10 : ((((bs (lineI x ++ [10]))[(lineI x).length]'hidx).toNat : Nat) : Int) = 10 := by
      rw [bs_get, List.getD_eq_getElem?_getD, List.getElem?_append_right (Nat.le_refl _)]
      simp
    have hz0 : (((lineI x).length : Int) + 1 == 0) = false := beq_eq_false_iff_ne.2 (by omega)
    have HWD : Hid (∀ W, Calls Tryd.prog 21 #[.string (bs (lineI x))] W fun e w' => ∃ v, e = .returned v ∧ WS W.heap.size W w' v (mnem x.op :: wdsI x (clsL x.op).length)) := Lib.hid (fun W => by
      have := words_any (lineI x) W (by omega)
      rwa [split_line hv HF.out] at this)
    have hwl : (mnem x.op :: wdsI x (clsL x.op).length).length = opsN x.op + 1 := by
      unfold wdsI
      simp [(clsL_len x.op).1]
    have hclx := (clsL_len x.op)
    go_wp2_with fail
    refine HVA.out.mono ?_
    rintro e W3 ⟨rfl, hb3⟩
    have q3 := Lib.hid (below_step q2.out q2.out.size hb3)
    have HX3 := Lib.hid (HX2.out.below hb3)
    clear x0 x1 x2 x3 x4 hb3 HX2 HVA hex
    obtain ⟨x0, x1, x2, x3, x4, _⟩ := HX3.out.five
    generalize bs (lineI x ++ [10]) = q at *
    go_wp2_with fail
    rw [HEX.out]
    refine (HWD.out W3).mono ?_
    rintro e W4 ⟨v4, rfl, hw4⟩
    obtain ⟨g, c4, rfl, hst⟩ := hw4.at_ (by simp)
    have q4 := Lib.hid (below_step q3.out q3.out.size hw4.1)
    have HX4 := Lib.hid (HX3.out.below hw4.1)
    have y0 := hst 0 _ rfl
    have HT4 := Lib.hid (show Tab W4.drew from HTS.out.1.mono (belowDrawn q4.out))
    clear x0 x1 x2 x3 x4 HX3 hw4 hst
    obtain ⟨x0, x1, x2, x3, x4, _⟩ := HX4.out.five
    rw [hwl]
    have hmb : (⟨(mnem x.op).toArray⟩ : ByteArray) = bs (mnem x.op) := rfl
    have hwr : IntKind.i64.wrap ((opsN x.op : Int) + 1) = (opsN x.op : Int) + 1 := by have := hclx.1; have := hclx.2; rw [IntKind.wrap_i64]; omega
    go_upto_region 9 with fail
    go_region_law (first
      | (go_simp; go_at_call 22; refine (operands_any x.op hop W4.drew HT4.out).mono ?_; rintro e w7 ⟨rfl, rfl⟩)
      | (go_simp; go_at_call 23; refine (mnemonic_any x.op hop W4.drew HT4.out).mono ?_; rintro e w8 ⟨rfl, rfl⟩)
      | fail)
    all_goals
      go_wp2_with fail
      go_ret
      exact ⟨rfl, belowDrawn q4.out⟩

end Go.Proofs.YtodiijoeeeeicaaDoor

/-
  AsmText: the walk.
-/
import Derived.Test.YtodiijoeeeeicaaDoorAsmAwk
namespace Go.Proofs.YtodiijoeeeeicaaDoor
open Go.ChangeShapes Go.WideShapes Go.ChangeAt Go.RowKit Go.Sort

theorem fmtA_small {l : List Ins} (h : ∀ x ∈ l, vIns x = true ∧ FitI x) (hn : l.length ≤ 40) : (fmtA l).length ≤ 4520 := by
  have := fmtA_len h l.length (Nat.le_refl _)
  rw [List.take_length] at this
  omega
theorem chk_fit {l : List Ins} (h0 : checkA l = 0) (hF : ∀ x ∈ l, FitI x) : ∀ x ∈ l, vIns x = true ∧ FitI x := fun x hx => ⟨(checkA_zero h0).2 x hx, hF x hx⟩
theorem toL (l : List UInt8) : (bs l).toList = l := by rw [ByteArray.toList_eq, data_bs]
theorem same_self (l : List Ins) (A A' : Option Addr) (cap cap' : Nat) (w : World) (hC : CodeAt w A l) (hC' : CodeAt w A' l) (hl : l.length ≤ 1000000) :
    Calls Tryd.prog 19 #[.slice A l.length cap, .slice A' l.length cap'] w fun e w' => e = .returned (.bool true) ∧ Below w.heap.size w w' :=
  (same_any l l A A' cap cap' w hC hC' hl).mono fun _ _ h => ⟨by rw [h.1]; simp, h.2⟩
set_option maxRecDepth 100000 in
set_option maxHeartbeats 1000000 in
theorem asmText_walk (l : List Ins) (A : Option Addr) (cap : Nat) (w : World) (hC : CodeAt w A l) (hl : l.length ≤ 9223372036854775807) (hY : Bytes l) (hF : ∀ x ∈ l, FitI x) (hT : Tab w) (hS : TabS w) (hW : Wld w) :
    Calls Tryd.prog 5 #[.slice A l.length cap] w fun e w' => e = .returned (.bool true) ∧ Below w.heap.size w w' := by
  have HAW := Lib.hid (awake_any w hT hS hW)
  have HTS := Lib.hid (And.intro hT (And.intro hS hW))
  have HL := Lib.hid hC
  have HY := Lib.hid hY
  have HF := Lib.hid hF
  clear hT hS hW hC hY hF
  go_enter Tryd.func5, Tryd.ntmps5
  go_wp2_with fail
  refine HAW.out.mono ?_
  rintro e W1 ⟨rfl, hb1⟩
  have q1 := Lib.hid hb1
  clear hb1 HAW
  by_cases h40 : 40 < l.length
  · have h40' : (40 : Int) < l.length := by omega
    go_wp2_with fail
    go_ret
    exact ⟨rfl, q1.out⟩
  have h40' : (l.length : Int) ≤ 40 := by omega
  have HFM := Lib.hid (format_any l A cap W1 (HL.out.mono q1.out) HY.out HF.out (HTS.out.1.mono q1.out) (HTS.out.2.1.mono q1.out) (HTS.out.2.2.below q1.out) (by omega))
  have H40 := Lib.hid (show l.length ≤ 40 by omega)
  clear hl h40
  go_wp2_with fail
  refine HFM.out.mono ?_
  rintro e W2 ⟨rfl, hb2⟩
  have q2 := Lib.hid (below_step q1.out q1.out.size hb2)
  clear hb2 HFM
  by_cases hk0 : checkA l = 0
  rotate_left
  · rw [if_neg hk0]
    have hne : (checkA l != 0) = true := bne_iff_ne.2 hk0
    have he := toL []
    generalize checkA l = ce at *
    go_wp2_with fail
    go_ret
    exact ⟨rfl, q2.out⟩
  have HV := Lib.hid (chk_fit hk0 HF.out)
  have HP := Lib.hid (parse_any (fmtA l) W2 (by have := fmtA_small HV.out H40.out; omega) (HTS.out.1.mono q2.out) (HTS.out.2.1.mono q2.out) (HTS.out.2.2.below q2.out))
  have HPA := Lib.hid (parseA_fmt HV.out (by have := H40.out; omega))
  rw [if_pos hk0, hk0]
  go_wp2_with fail
  refine HP.out.mono ?_
  rintro e W3 he
  unfold RetPA at he
  rw [HPA.out] at he
  obtain ⟨v, rfl, hw3, _⟩ := he
  obtain ⟨A3, c3, rfl, hcode⟩ := code_of_own hw3.2
  have q3 := Lib.hid (below_step q2.out q2.out.size hw3.1)
  have HSM := Lib.hid (same_self l A3 A c3 cap W3 hcode (HL.out.mono q3.out) (by have := H40.out; omega))
  clear hw3 hcode HP HPA
  go_wp2_with fail
  refine HSM.out.mono ?_
  rintro e W4 ⟨rfl, hb4⟩
  have q4 := Lib.hid (below_step q3.out q3.out.size hb4)
  go_wp2_with fail
  go_ret
  exact ⟨rfl, q4.out⟩

end Go.Proofs.YtodiijoeeeeicaaDoor

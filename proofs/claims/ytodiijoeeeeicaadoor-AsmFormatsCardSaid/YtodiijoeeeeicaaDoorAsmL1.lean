/-
  AsmFormats: the walk.
-/
import Derived.Test.YtodiijoeeeeicaaDoorAsmL9
import Derived.Test.YtodiijoeeeeicaaDoorAsmREn
import Derived.Test.YtodiijoeeeeicaaDoorAsmRFo
namespace Go.Proofs.YtodiijoeeeeicaaDoor
open Go.ChangeShapes Go.WideShapes Go.ChangeAt Go.RowKit Go.Sort

theorem rete_bys {l : List Ins} {w w' : World} {e : Ending} (h : RetE l w e w') : ∃ A c, e = .returned (.tuple #[.slice A (if checkA l = 0 then encA l else []).length c, .int .i64 (checkA l)]) ∧ BysAt w' A (if checkA l = 0 then encA l else []) ∧ Below w.heap.size w w' := by
  unfold RetE at h
  by_cases h0 : checkA l = 0
  · rw [if_pos h0] at h
    obtain ⟨v, rfl, hw⟩ := h
    obtain ⟨A, c, rfl, _, hb⟩ := bys_of_own hw.2.1
    rw [if_pos h0, h0]
    exact ⟨A, c, rfl, hb, hw.1⟩
  · rw [if_neg h0] at h
    obtain ⟨rfl, hb⟩ := h
    rw [if_neg h0]
    exact ⟨none, 0, rfl, fun k x hk => by simp at hk, hb⟩
set_option maxRecDepth 100000 in
set_option maxHeartbeats 2000000 in
theorem asmFormats_walk (l : List Ins) (A : Option Addr) (cap : Nat) (w : World) (hC : CodeAt w A l) (hl : l.length ≤ 9223372036854775807) (hY : Bytes l) (hF : ∀ x ∈ l, FitI x) (hT : Tab w) (hS : TabS w) (hW : Wld w) :
    Calls Tryd.prog 3 #[.slice A l.length cap] w fun e w' => e = .returned (.bool true) ∧ Below w.heap.size w w' := by
  have HAW := Lib.hid (awake_any w hT hS hW)
  have HTS := Lib.hid (And.intro hT (And.intro hS hW))
  have HL := Lib.hid hC
  have HY := Lib.hid hY
  have HF := Lib.hid hF
  obtain ⟨fl, hfl⟩ : ∃ fl, (if checkA l = 0 then fmtA l else []) = fl := ⟨_, rfl⟩
  obtain ⟨bl, hbl⟩ : ∃ bl, (if checkA l = 0 then encA l else []) = bl := ⟨_, rfl⟩
  obtain ⟨ce, hce⟩ : ∃ ce, checkA l = ce := ⟨_, rfl⟩
  have HFL := Lib.hid hfl
  have HBL := Lib.hid hbl
  have HCE := Lib.hid hce
  clear hT hS hW hC hY hF hfl hbl hce
  go_enter Tryd.func3, Tryd.ntmps3
  go_wp2_with fail
  refine HAW.out.mono ?_
  rintro e W1 ⟨rfl, hb1⟩
  have q1 := Lib.hid hb1
  clear hb1 HAW
  by_cases h40 : 40 < l.length
  · have h40' : (40 : Int) < l.length := by omega
    go_wp2_with fail
    go_ret
    exact ⟨rfl, q1.out⟩
  have h40' : (l.length : Int) ≤ 40 := by omega
  have HFM := Lib.hid (format_any l A cap W1 (HL.out.mono q1.out) HY.out HF.out (HTS.out.1.mono q1.out) (HTS.out.2.1.mono q1.out) (HTS.out.2.2.below q1.out) (by omega))
  have H40 := Lib.hid (show l.length ≤ 140737488355328 by omega)
  clear hl h40
  unfold RetF at HFM
  rw [HFL.out, HCE.out] at HFM
  go_wp2_with fail
  refine HFM.out.mono ?_
  rintro e W2 ⟨rfl, hb2⟩
  have q2 := Lib.hid (below_step q1.out q1.out.size hb2)
  clear hb2 HFM
  have HFR := Lib.hid (rformat_any l A cap W2 (HL.out.mono q2.out) HY.out HF.out H40.out)
  unfold RetF at HFR
  rw [HFL.out, HCE.out] at HFR
  go_wp2_with fail
  refine HFR.out.mono ?_
  rintro e W3 ⟨rfl, hb3⟩
  have q3 := Lib.hid (below_step q2.out q2.out.size hb3)
  clear hb3 HFR
  have HEN := Lib.hid (encode_any l A cap W3 (HL.out.mono q3.out) HY.out (HTS.out.1.mono q3.out) H40.out)
  go_wp2_with fail
  refine HEN.out.mono ?_
  intro e W4 he
  have he2 := rete_bys he
  rw [HBL.out, HCE.out] at he2
  obtain ⟨A4, c4, rfl, hy4, hb4⟩ := he2
  have q4 := Lib.hid (below_step q3.out q3.out.size hb4)
  have HY4 := Lib.hid hy4
  clear hb4 hy4 he HEN
  have HRE := Lib.hid (rencode_any l A cap W4 (HL.out.mono q4.out) HY.out H40.out)
  go_wp2_with fail
  refine HRE.out.mono ?_
  intro e W5 he
  have he2 := rete_bys he
  rw [HBL.out, HCE.out] at he2
  obtain ⟨A5, c5, rfl, hy5, hb5⟩ := he2
  have q5 := Lib.hid (below_step q4.out q4.out.size hb5)
  have hcv4 := bstr_run (HY4.out.mono hb5) c4
  have hcv5 := bstr_run hy5 c5
  clear hb5 hy5 he HRE
  go_wp2_with fail
  trace_state
  go_ret
  exact ⟨rfl, q5.out⟩

end Go.Proofs.YtodiijoeeeeicaaDoor

/-
  ScriptBack: the walk.
-/
import Derived.Test.YtklljdjeobifiaaDoorScrGreat
namespace Go.Proofs.YtklljdjeobifiaaDoor
open Go.ChangeShapes Go.WideShapes Go.ChangeAt Go.RowKit Go.Sort Go.Maps

set_option maxRecDepth 100000 in
set_option maxHeartbeats 1000000 in
theorem scriptBack_walk (l : List Cm) (A : Option Addr) (cap : Nat) (w : World) (hL : CmsAt w A l) (hl : l.length ≤ 9223372036854775807) (hs : ∀ c ∈ l, Sm c) (hf : ∀ c ∈ l, Fits c) (hW : Wld w) :
    Calls Tryd.prog 5 #[.slice A l.length cap] w fun e w' => e = .returned (.bool true) ∧ Below w.heap.size w w' := by
  have HWl := Lib.hid hW
  have HL := Lib.hid hL
  have HS := Lib.hid hs
  have HF := Lib.hid hf
  have HAW := Lib.hid (awake_any w hW)
  clear hW hL hs hf
  go_enter Tryd.func5, Tryd.ntmps5
  go_wp2_with fail
  refine HAW.out.mono ?_
  rintro e W1 ⟨rfl, hb1⟩
  have q1 := Lib.hid hb1
  have HW1 := Lib.hid (HWl.out.below hb1)
  have HL1 := Lib.hid (HL.out.mono hb1)
  have HG := Lib.hid (great_any l A cap W1 HL1.out hl HS.out)
  clear hb1 HAW
  go_wp2_with fail
  refine HG.out.mono ?_
  rintro e W2 ⟨b, rfl, hbt, hb2⟩
  have q2 := Lib.hid (below_step q1.out q1.out.size hb2)
  have HW2 := Lib.hid (HW1.out.below hb2)
  have HL2 := Lib.hid (HL1.out.mono hb2)
  clear hb2 HG
  cases b with
  | true =>
    clear hbt
    go_wp2_with fail
    go_ret
    exact ⟨rfl, q2.out⟩
  | false =>
  have hlen : l.length ≤ 1010 := by
    rcases Nat.lt_or_ge 1010 l.length with h | h
    · have := hbt h; cases this
    · exact h
  clear hbt
  have HGV := Lib.hid (given_any l A cap W2 HL2.out (by omega))
  go_wp2_with fail
  refine HGV.out.mono ?_
  rintro e W3 ⟨A3, c3, rfl, hC3, hb3⟩
  have q3 := Lib.hid (below_step q2.out q2.out.size hb3)
  have HW3 := Lib.hid (HW2.out.below hb3)
  have HL3 := Lib.hid (HL2.out.mono hb3)
  have HFM := Lib.hid (formatV_any l A3 c3 W3 hC3 hl HS.out HF.out HW3.out)
  clear hb3 HGV hC3
  go_wp2_with fail
  refine HFM.out.mono ?_
  rintro e W4 ⟨rfl, hb4⟩
  have q4 := Lib.hid (below_step q3.out q3.out.size hb4)
  have HW4 := Lib.hid (HW3.out.below hb4)
  have HL4 := Lib.hid (HL3.out.mono hb4)
  clear hb4 HFM
  by_cases ho : okL l = true
  · have HO := Lib.hid ho
    rw [if_pos ho, if_pos ho]
    have HB := Lib.hid (okL_bnd ho HF.out)
    have HPF := Lib.hid (parse_fmt ho HF.out)
    have HP := Lib.hid (parse_any (fmtL l) W4 HW4.out (by have := HB.out; omega))
    clear ho
    generalize fmtL l = tx at *
    go_wp2_with fail
    refine HP.out.mono ?_
    rintro e W5 ⟨hb5, ⟨n, e0, h, rfl⟩ | ⟨l', A5, c5, h, hC5, rfl⟩⟩
    · rw [HPF.out] at h; cases h
    rw [HPF.out] at h
    obtain rfl : l = l' := by injection h
    have q5 := Lib.hid (below_step q4.out q4.out.size hb5)
    have HL5 := Lib.hid (HL4.out.mono hb5)
    have HPL := Lib.hid (plain_any l A5 c5 W5 hC5 (by omega))
    clear hb5 h HP hC5
    go_wp2_with fail
    refine HPL.out.mono ?_
    rintro e W6 ⟨A6, c6, rfl, hC6, hb6⟩
    have q6 := Lib.hid (below_step q5.out q5.out.size hb6)
    have HSA := Lib.hid (same_any l A6 A c6 cap W6 hC6 (HL5.out.mono hb6) (by omega) HS.out)
    clear hb6 hC6 HPL
    go_wp2_with fail
    refine HSA.out.mono ?_
    rintro e W7 ⟨rfl, hb7⟩
    have q7 := Lib.hid (below_step q6.out q6.out.size hb7)
    clear hb7 HSA
    go_wp2_with fail
    go_ret
    exact ⟨rfl, q7.out⟩
  · have HO := Lib.hid (Bool.eq_false_iff.2 ho)
    rw [if_neg ho, if_neg ho]
    have HG2 := Lib.hid (given_any l A cap W4 HL4.out (by omega))
    clear ho
    go_wp2_with fail
    refine HG2.out.mono ?_
    rintro e W5 ⟨A5, c5, rfl, hC5, hb5⟩
    have q5 := Lib.hid (below_step q4.out q4.out.size hb5)
    have HV := Lib.hid (validL_any l A5 c5 W5 hC5 hl HS.out)
    rw [HO.out] at HV
    clear hb5 hC5 HG2
    go_wp2_with fail
    refine HV.out.mono ?_
    rintro e W6 ⟨rfl, hb6⟩
    have q6 := Lib.hid (below_step q5.out q5.out.size hb6)
    clear hb6 HV
    go_wp2_with fail
    go_ret
    exact ⟨rfl, q6.out⟩

end Go.Proofs.YtklljdjeobifiaaDoor

/-
  The walks of the laws ImageCheck and ImagePartner.
-/
import Derived.Test.YthakiaicnhkfjaaDoorImgAwake
namespace Go.Proofs.YthakiaicnhkfjaaDoor
open Go.ChangeShapes Go.WideShapes Go.ChangeAt Go.RowKit Go.Sort

set_option maxRecDepth 100000 in
set_option maxHeartbeats 1000000 in
theorem imageCheck_walk (l : List Ins) (A : Option Addr) (cap : Nat) (M S : Int) (w : World) (hC : CodeAt w A l) (hY : Bytes l) (hl63 : l.length ≤ 9223372036854775807) (hT : Tab w) :
    Calls Tryd.prog 4 #[.agg #[.slice A l.length cap, .int .i64 M, .int .i64 S]] w fun e w' => e = .returned (.bool true) ∧ Below w.heap.size w w' := by
  have hbW := below_box w (Obj.cells #[.slice A l.length cap, .int .i64 M, .int .i64 S] 24)
  have im := imgAt_box w 24 A cap M S l hC
  have HT := Lib.hid (hT.mono hbW)
  clear hC hT
  go_enter Tryd.func4, Tryd.ntmps4
  go_wp2_with fail
  generalize w.alloc _ = W at hbW im HT ⊢
  refine (awake23_any _ HT.out).mono ?_
  rintro e w1 ⟨rfl, hb1⟩
  have im1 := im.mono hb1
  have HT1 := Lib.hid (HT.out.mono hb1)
  have q1 := below_step hbW hbW.size hb1
  clear im HT hbW hb1
  obtain ⟨b0, b1, b2, bc⟩ := id im1
  clear bc
  go_wp2_with fail
  refine (great_any l _ _ _ _ _ hl63).mono ?_
  rintro e w2 ⟨rfl, hb2⟩
  have im2 := im1.mono hb2
  have HT2 := Lib.hid (HT1.out.mono hb2)
  have q2 := below_step q1 q1.size hb2
  clear im1 HT1 q1 hb2 b0 b1 b2
  obtain ⟨b0, b1, b2, bc⟩ := id im2
  clear bc
  by_cases h80 : 80 < l.length
  · have g80 : decide (80 < l.length) = true := by simpa using h80
    go_wp2
    go_ret
    exact ⟨rfl, q2⟩
  have g80 : decide (80 < l.length) = false := by simpa using h80
  have hl : l.length ≤ 1000000 := by omega
  go_wp2_with fail
  refine (check_any l _ _ _ _ _ im2.code hY HT2.out hl).mono ?_
  rintro e w3 ⟨rfl, hb3⟩
  have im3 := im2.mono hb3
  have HT3 := Lib.hid (HT2.out.mono hb3)
  have q3 := below_step q2 q2.size hb3
  clear im2 HT2 q2 hb3 b0 b1 b2
  obtain ⟨b0, b1, b2, bc⟩ := id im3
  clear bc
  go_wp2_with fail
  refine (rcheck_any l _ _ _ _ _ im3.code hY hl).mono ?_
  rintro e w4 ⟨rfl, hb4⟩
  have im4 := im3.mono hb4
  have HT4 := Lib.hid (HT3.out.mono hb4)
  have q4 := below_step q3 q3.size hb4
  clear im3 HT3 q3 hb4 b0 b1 b2
  obtain ⟨b0, b1, b2, bc⟩ := id im4
  clear bc
  have hpf : pfault l = rfault l := funext (pfault_eq l)
  have hok := Lib.hid (show okImg l M S = ((checkF (rfault l) l.length M S).2 == 0) by unfold okImg; rw [hpf])
  rw [hpf]
  clear hpf
  generalize (checkF (rfault l) l.length M S).1 = c1 at *
  generalize (checkF (rfault l) l.length M S).2 = c2 at *
  go_wp2_with fail
  refine (ivalid_any l _ _ _ _ _ im4.code hY HT4.out hl).mono ?_
  rintro e w5 ⟨rfl, hb5⟩
  rw [hok.out]
  have q5 := below_step q4 q4.size hb5
  go_wp2
  go_ret
  exact ⟨ret_bool (by simp), q5⟩

end Go.Proofs.YthakiaicnhkfjaaDoor

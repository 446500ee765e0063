/-
  The walk of the law ImageTwice.
-/
import Derived.Test.YthakiaicnhkfjaaDoorImgAwake
import Derived.Test.YthakiaicnhkfjaaDoorImgInvMath
namespace Go.Proofs.YthakiaicnhkfjaaDoor
open Go.ChangeShapes Go.WideShapes Go.ChangeAt Go.RowKit Go.Sort

theorem atI_op_lt {l : List Ins} (hY : Bytes l) (i : Int) : (atI l i).op < 256 := by
  unfold atI
  rw [List.getD_eq_getElem?_getD]
  cases h : l[i.toNat]? with
  | none => decide
  | some x => exact hY _ x h
theorem bytes_inv {l : List Ins} (hY : Bytes l) : Bytes (invL l) := fun k x hk => by
  have hkl := (List.getElem?_eq_some_iff.1 hk).1
  rw [invL_length] at hkl
  have : x = newX l (l.length - 1 - k) := by simp [invL, hkl] at hk; exact hk.symm
  rw [this, op_new]
  exact invN_256 (atI_op_lt hY _)
theorem ok_inv {l : List Ins} {M S : Int} (hs : sizesB l.length M S = true) (h : Struct l) (hn : l.length ≤ 65536) : okImg (invL l) M S = true :=
  ok_iff.2 ⟨by rw [invL_length]; exact hs, struct_inv h hn⟩

set_option maxRecDepth 100000 in
set_option maxHeartbeats 1000000 in
theorem imageTwice_walk (l : List Ins) (A : Option Addr) (cap : Nat) (M S : Int) (w : World) (hC : CodeAt w A l) (hY : Bytes l) (hl63 : l.length ≤ 9223372036854775807) (hT : Tab w) :
    Calls Tryd.prog 5 #[.agg #[.slice A l.length cap, .int .i64 M, .int .i64 S]] w fun e w' => e = .returned (.bool true) ∧ Below w.heap.size w w' := by
  have hbW := below_box w (Obj.cells #[.slice A l.length cap, .int .i64 M, .int .i64 S] 24)
  have im := imgAt_box w 24 A cap M S l hC
  have HT := Lib.hid (hT.mono hbW)
  clear hC hT
  go_enter Tryd.func5, Tryd.ntmps5
  go_wp2_with fail
  generalize w.alloc _ = W at hbW im HT ⊢
  refine (awake23_any _ HT.out).mono ?_
  rintro e w1 ⟨rfl, hb1⟩
  have im1 := im.mono hb1
  have HT1 := Lib.hid (HT.out.mono hb1)
  have q1 := below_step hbW hbW.size hb1
  clear im HT hbW hb1
  obtain ⟨b0, b1, b2, bc⟩ := id im1
  clear bc
  go_wp2_with fail
  refine (great_any l _ _ _ _ _ hl63).mono ?_
  rintro e w2 ⟨rfl, hb2⟩
  have im2 := im1.mono hb2
  have HT2 := Lib.hid (HT1.out.mono hb2)
  have q2 := below_step q1 q1.size hb2
  clear im1 HT1 q1 hb2 b0 b1 b2
  obtain ⟨b0, b1, b2, bc⟩ := id im2
  clear bc
  by_cases h80 : 80 < l.length
  · have g80 : decide (80 < l.length) = true := by simpa using h80
    go_wp2
    go_ret
    exact ⟨rfl, q2⟩
  have g80 : decide (80 < l.length) = false := by simpa using h80
  have hl : l.length ≤ 1000000 := by omega
  go_wp2_with fail
  refine (ivalid_any l _ _ _ _ _ im2.code hY HT2.out hl).mono ?_
  rintro e w3 ⟨rfl, hb3⟩
  have im3 := im2.mono hb3
  have HT3 := Lib.hid (HT2.out.mono hb3)
  have q3 := below_step q2 q2.size hb3
  clear im2 HT2 q2 hb3 b0 b1 b2
  obtain ⟨b0, b1, b2, bc⟩ := id im3
  clear bc
  by_cases hok : okImg l M S = true
  rotate_left
  · have hok' : okImg l M S = false := by simpa using hok
    clear hok
    go_wp2
    go_ret
    exact ⟨rfl, q3⟩
  obtain ⟨hsz, hst⟩ := ok_iff.1 hok
  have hn16 : l.length ≤ 65536 := by simp [sizesB] at hsz; omega
  have HSZ := Lib.hid hsz
  have HST := Lib.hid hst
  clear hsz hst
  go_wp2_with fail
  refine (invert_any l _ _ _ _ _ im3.code hY HT3.out hl).mono ?_
  rintro e w4 (⟨_, A4, c4, rfl, hC4, hb4⟩ | ⟨h, _⟩)
  rotate_left
  · rw [hok] at h; cases h
  have HC4 := Lib.hid hC4
  clear hC4
  have im4 := im3.mono hb4
  have HT4 := Lib.hid (HT3.out.mono hb4)
  have q4 := below_step q3 q3.size hb4
  clear im3 HT3 q3 hb4 b0 b1 b2
  obtain ⟨b0, b1, b2, bc⟩ := id im4
  clear bc
  have hoi := ok_inv HSZ.out HST.out hn16
  have hYi := Lib.hid (bytes_inv hY)
  have s4 := im4.lt
  go_wp2_with fail
  have iX := imgAt_box w4 24 A4 c4 M S (invL l) HC4.out
  rw [invL_length] at iX
  have hbx := below_box w4 (Obj.cells #[Value.slice A4 l.length c4, Value.int IntKind.i64 M, Value.int IntKind.i64 S] 24)
  generalize w4.alloc _ = W5 at iX hbx ⊢
  have im5 := im4.mono hbx
  have HT5 := Lib.hid (HT4.out.mono hbx)
  have q5 := below_step q4 q4.size hbx
  clear im4 HT4 q4 hbx b0 b1 b2 HC4
  have cinv := invert_any (invL l) A4 c4 M S W5 iX.code hYi.out HT5.out (by rw [invL_length]; exact hl)
  rw [invL_length] at cinv
  refine cinv.mono ?_
  clear cinv
  rintro e w6 (⟨_, A6, c6, rfl, hC6, hb6⟩ | ⟨h, _⟩)
  rotate_left
  · rw [hoi] at h; cases h
  rw [inv_inv HST.out hn16] at hC6
  rw [invL_length]
  have HC6 := Lib.hid hC6
  have im6 := im5.mono hb6
  have iX6 := iX.mono hb6
  have HT6 := Lib.hid (HT5.out.mono hb6)
  have q6 := below_step q5 q5.size hb6
  clear im5 iX HT5 q5 hb6 hC6
  obtain ⟨b0, b1, b2, bc⟩ := id im6
  obtain ⟨x0, x1, x2, xc⟩ := id iX6
  rw [invL_length] at x0
  clear bc xc
  have s6 := im6.lt
  have s7 := iX6.lt
  go_wp2_with fail
  have iY := imgAt_box w6 24 A6 c6 M S l HC6.out
  have hbx := below_box w6 (Obj.cells #[Value.slice A6 l.length c6, Value.int IntKind.i64 M, Value.int IntKind.i64 S] 24)
  generalize w6.alloc _ = W7 at iY hbx ⊢
  have im7 := im6.mono hbx
  have iX7 := iX6.mono hbx
  have HT7 := Lib.hid (HT6.out.mono hbx)
  have q7 := below_step q6 q6.size hbx
  clear im6 iX6 HT6 q6 hbx b0 b1 b2 x0 x1 x2
  have cval := ivalid_any (invL l) A4 c4 M S W7 iX7.code hYi.out HT7.out (by rw [invL_length]; exact hl)
  rw [invL_length] at cval
  refine cval.mono ?_
  clear cval
  rintro e w8 ⟨rfl, hb8⟩
  rw [hoi]
  have im8 := im7.mono hb8
  have iY8 := iY.mono hb8
  have q8 := below_step q7 q7.size hb8
  clear im7 iY q7 hb8
  obtain ⟨b0, b1, b2, bc⟩ := id im8
  obtain ⟨y0, y1, y2, yc⟩ := id iY8
  clear bc yc
  go_wp2_with fail
  refine (same_any l l _ _ c6 cap M M S S _ iY8.code im8.code hl hl).mono ?_
  rintro e w9 ⟨rfl, hb9⟩
  have q9 := below_step q8 q8.size hb9
  have hsame : sameB l l M M S S = true := by simp [sameB]
  go_wp2
  go_ret
  exact ⟨rfl, q9⟩

end Go.Proofs.YthakiaicnhkfjaaDoor

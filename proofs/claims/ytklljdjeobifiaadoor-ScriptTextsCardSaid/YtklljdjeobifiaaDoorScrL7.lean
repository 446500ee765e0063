/-
  ScriptTexts: the walk.
-/
import Derived.Test.YtklljdjeobifiaaDoorScrGreat
import Derived.Test.YtklljdjeobifiaaDoorScrTxP
namespace Go.Proofs.YtklljdjeobifiaaDoor
open Go.ChangeShapes Go.WideShapes Go.ChangeAt Go.RowKit Go.Sort Go.Maps

theorem cellsAt_cell {w : World} {b o : Nat} {cs : List Value} (h : CellsAt w (some ⟨b, o, none⟩) cs) {j : Nat} {u : Value} (hu : cs[j]? = some u) : w.cell? ⟨b, o + j, none⟩ = some u := by
  obtain ⟨b', o', e, h1⟩ := h j u hu
  cases e
  exact h1
theorem tx_cms (t : List UInt8) (w : World) : CmsAt ((w.alloc (Obj.cells #[.int .i64 1, .int .i64 0, .int .i64 0, .int .i64 (-7)] 3)).alloc (Obj.cells #[.int .u8 1, .string ⟨#[]⟩, .string (bs (t ++ [10])), .slice none 0 0, .int .u8 9, .string ⟨#[]⟩, .string ⟨#[]⟩, .slice none 0 0, .int .u8 12, .string ⟨#[97, 110, 110]⟩, .string (bs (t ++ [10])), .slice (some ⟨w.heap.size, 0, none⟩) 4 4] 42)) (some ⟨w.heap.size + 1, 0, none⟩) (txL t) := by
  have h := cells_newU (w.alloc (Obj.cells #[.int .i64 1, .int .i64 0, .int .i64 0, .int .i64 (-7)] 3)) (C := w.heap.size + 1) (by simp) [.int .u8 1, .string ⟨#[]⟩, .string (bs (t ++ [10])), .slice none 0 0, .int .u8 9, .string ⟨#[]⟩, .string ⟨#[]⟩, .slice none 0 0, .int .u8 12, .string ⟨#[97, 110, 110]⟩, .string (bs (t ++ [10])), .slice (some ⟨w.heap.size, 0, none⟩) 4 4] 42
  have hi := (cells_newU w (C := w.heap.size) rfl [.int .i64 1, .int .i64 0, .int .i64 0, .int .i64 (-7)] 3).mono (below_box _ (Obj.cells #[.int .u8 1, .string ⟨#[]⟩, .string (bs (t ++ [10])), .slice none 0 0, .int .u8 9, .string ⟨#[]⟩, .string ⟨#[]⟩, .slice none 0 0, .int .u8 12, .string ⟨#[97, 110, 110]⟩, .string (bs (t ++ [10])), .slice (some ⟨w.heap.size, 0, none⟩) 4 4] 42))
  have hc := fun (j : Nat) (u : Value) hu => cellsAt_cell h (j := j) (u := u) hu
  intro k c hk
  match k, hk with
  | 0, hk =>
    cases hk
    exact ⟨_, _, rfl, hc 0 _ rfl, hc 1 _ rfl, hc 2 _ rfl, none, 0, hc 3 _ rfl, fun k x hk => by simp at hk⟩
  | 1, hk =>
    cases hk
    exact ⟨_, _, rfl, hc 4 _ rfl, hc 5 _ rfl, hc 6 _ rfl, none, 0, hc 7 _ rfl, fun k x hk => by simp at hk⟩
  | 2, hk =>
    cases hk
    refine ⟨_, _, rfl, hc 8 _ rfl, hc 9 _ rfl, hc 10 _ rfl, _, 4, hc 11 _ rfl, fun k x hk => ?_⟩
    exact hi k (.int .i64 x) (by
      have : ([1, 0, 0, -7] : List Int)[k]? = some x := hk
      match k, this with
      | 0, h => cases h; rfl
      | 1, h => cases h; rfl
      | 2, h => cases h; rfl
      | 3, h => cases h; rfl
      | k + 4, h => simp at h)
  | k + 3, hk => simp [txL] at hk

set_option maxRecDepth 100000 in
set_option maxHeartbeats 1000000 in
theorem scriptTexts_walk (t : List UInt8) (nm : ByteArray) (w : World) (hW : Wld w) (hs : t.length ≤ 9223372036854775807) :
    Calls Tryd.prog 9 #[.string (bs t), .string nm] w fun e w' => e = .returned (.bool true) ∧ Below w.heap.size w w' := by
  have HWl := Lib.hid hW
  have HAW := Lib.hid (awake_any w hW)
  have hz := bs_size t
  have HT := Lib.hid (show bs t ++ ({ data := #[10] } : ByteArray) = bs (t ++ [10]) by rw [← bs_app]; rfl)
  clear hW
  go_enter Tryd.func9, Tryd.ntmps9
  go_wp2_with fail
  refine HAW.out.mono ?_
  rintro e W1 ⟨rfl, hb1⟩
  have q1 := Lib.hid hb1
  have HW1 := Lib.hid (HWl.out.below hb1)
  clear hb1 HAW
  by_cases hbig : 10000 < t.length
  · go_wp2_with fail
    go_ret
    exact ⟨rfl, q1.out⟩
  have hsm : t.length ≤ 10000 := by omega
  have HO := Lib.hid (tx_ok hsm)
  have HB := Lib.hid (two_box W1 (Obj.cells #[.int .i64 1, .int .i64 0, .int .i64 0, .int .i64 (-7)] 3) (Obj.cells #[.int .u8 1, .string ⟨#[]⟩, .string (bs (t ++ [10])), .slice none 0 0, .int .u8 9, .string ⟨#[]⟩, .string ⟨#[]⟩, .slice none 0 0, .int .u8 12, .string ⟨#[97, 110, 110]⟩, .string (bs (t ++ [10])), .slice (some ⟨W1.heap.size, 0, none⟩) 4 4] 42))
  have HC := Lib.hid (tx_cms t W1)
  go_upto_region 6 with fail
  rw [HT.out]
  generalize ((W1.alloc _).alloc _) = W2 at HB HC ⊢
  have q2 := Lib.hid (below_step q1.out q1.out.size HB.out)
  have HW2 := Lib.hid (HW1.out.below HB.out)
  have hl3 : (txL t).length = 3 := rfl
  have HS := Lib.hid (okL_sm HO.out)
  have HFM := Lib.hid (formatV_any (txL t) (some ⟨W1.heap.size + 1, 0, none⟩) 3 W2 HC.out (by omega) HS.out (tx_fits t) HW2.out)
  rw [hl3] at HFM
  clear HB
  go_wp2_with fail
  refine HFM.out.mono ?_
  rintro e W3 ⟨rfl, hb3⟩
  rw [if_pos HO.out, if_pos HO.out]
  have q3 := Lib.hid (below_step q2.out q2.out.size hb3)
  have HW3 := Lib.hid (HW2.out.below hb3)
  have HC3 := Lib.hid (HC.out.mono hb3)
  have HBD := Lib.hid (okL_bnd HO.out (tx_fits t))
  have HPF := Lib.hid (parse_fmt HO.out (tx_fits t))
  have HP := Lib.hid (parse_any (fmtL (txL t)) W3 HW3.out (by have := HBD.out; omega))
  clear hb3 HFM HC
  generalize fmtL (txL t) = tx at *
  go_wp2_with fail
  refine HP.out.mono ?_
  rintro e W4 ⟨hb4, ⟨n, e0, h, rfl⟩ | ⟨l', A4, c4, h, hC4, rfl⟩⟩
  · rw [HPF.out] at h; cases h
  rw [HPF.out] at h
  obtain rfl : txL t = l' := by injection h
  have q4 := Lib.hid (below_step q3.out q3.out.size hb4)
  have HC4 := Lib.hid (HC3.out.mono hb4)
  have HPL := Lib.hid (plain_any (txL t) A4 c4 W4 hC4 (by omega))
  rw [hl3] at HPL
  clear hb4 h HP hC4
  go_wp2_with fail
  refine HPL.out.mono ?_
  rintro e W5 ⟨A5, c5, rfl, hC5, hb5⟩
  have q5 := Lib.hid (below_step q4.out q4.out.size hb5)
  have HC5 := Lib.hid (HC4.out.mono hb5)
  have HD5 := Lib.hid hC5
  have HPM := Lib.hid (plain_any (txL t) (some ⟨W1.heap.size + 1, 0, none⟩) 3 W5 HC5.out (by omega))
  rw [hl3] at HPM
  clear hb5 hC5 HPL
  go_wp2_with fail
  refine HPM.out.mono ?_
  rintro e W6 ⟨A6, c6, rfl, hC6, hb6⟩
  have q6 := Lib.hid (below_step q5.out q5.out.size hb6)
  have HSA := Lib.hid (same_any (txL t) A5 A6 c5 c6 W6 (HD5.out.mono hb6) hC6 (by omega) HS.out)
  rw [hl3] at HSA
  clear hb6 hC6 HPM
  go_wp2_with fail
  refine HSA.out.mono ?_
  rintro e W7 ⟨rfl, hb7⟩
  have q7 := Lib.hid (below_step q6.out q6.out.size hb7)
  clear hb7 HSA
  go_wp2_with fail
  go_ret
  exact ⟨rfl, q7.out⟩

end Go.Proofs.YtklljdjeobifiaaDoor

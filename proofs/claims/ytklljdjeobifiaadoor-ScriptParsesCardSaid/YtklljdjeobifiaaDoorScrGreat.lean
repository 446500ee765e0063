/-
  law51's great (any answer); script.Format without a bound on what is not valid.
-/
import Derived.Test.YtklljdjeobifiaaDoorScrBnd
namespace Go.Proofs.YtklljdjeobifiaaDoor
open Go.ChangeShapes Go.WideShapes Go.ChangeAt Go.RowKit Go.Sort Go.Maps

def RetGreat (n : Nat) (w : World) (e : Ending) (w' : World) : Prop := ∃ b : Bool, e = .returned (.bool b) ∧ (1010 < n → b = true) ∧ Below w.heap.size w w'
set_option maxRecDepth 100000 in
set_option maxHeartbeats 1000000 in
theorem great_any (l : List Cm) (A : Option Addr) (cap : Nat) (w : World) (hL : CmsAt w A l) (hl : l.length ≤ 9223372036854775807) (hs : ∀ c ∈ l, Sm c) :
    Calls Tryd.prog 12 #[.slice A l.length cap] w (RetGreat l.length w) := by
  have HL := Lib.hid hL
  have HS := Lib.hid hs
  clear hL hs
  go_enter Tryd.func12, Tryd.ntmps12
  go_wp2_with fail
  go_loopw [3, 4, 8] (fun n m i wr => ∃ (k : Nat) (x y : Int), k ≤ l.length ∧ n = .int .i64 x ∧ m = .int .i64 y ∧ i = .int .i64 k ∧ Hid (Below w.heap.size w wr)) (fun _ _ i _ => l.length - (intOf i).toNat)
  case atStart => exact ⟨0, 0, 0, by omega, rfl, rfl, rfl, Below.refl _ _⟩
  case round =>
    obtain ⟨k, x, y, hk, rfl, rfl, rfl, hb⟩ := hrel
    by_cases hin : k < l.length
    · obtain ⟨b, o, rfl, hc⟩ := HL.out.at_ hin
      have HSM := Lib.hid (HS.out _ (List.getElem_mem hin))
      generalize l[k] = c at *
      obtain ⟨c0, c1, c2, A', cp, c3, hi⟩ := hc
      have hbd := Lib.hid (belowDrawn hb.out)
      have c1 := below_cell hbd.out c1
      have c2 := below_cell hbd.out c2
      have c3 := below_cell hbd.out c3
      have r1 : (0 : Int) ≤ k := by omega
      have r2 : (k : Int) < l.length := by omega
      have hl1 := block_lt_of_cell c1
      clear c0 hi
      go_upto_region 5 with fail
      go_region
      go_wp2_with fail
      exact ⟨⟨k + 1, _, _, by omega, rfl, rfl, by go_num, hbd⟩, by simp [intOf]; omega⟩
    · by_cases hbig : 1010 < l.length
      · go_wp2_with fail
        all_goals
          go_ret
          exact ⟨_, rfl, fun _ => rfl, hb.out⟩
      · go_wp2_with fail
        all_goals
          go_ret
          exact ⟨_, rfl, fun h => absurd h hbig, hb.out⟩

set_option maxRecDepth 100000 in
set_option maxHeartbeats 1000000 in
theorem formatV_any (l : List Cm) (A : Option Addr) (cap : Nat) (w : World) (hL : CmsAt w A l) (hl : l.length ≤ 9223372036854775807) (hs : ∀ c ∈ l, Sm c) (hf : ∀ c ∈ l, Fits c) (hW : Wld w) :
    Calls Tryd.prog 13 #[.slice A l.length cap] w (RetFmt l w) := by
  by_cases ho : okL l = true
  · exact format_any l A cap w hL hl hs hf hW (by have := okL_bnd ho hf; omega)
  · have HO := Lib.hid (Bool.eq_false_iff.2 ho)
    have HV := Lib.hid (validL_any l A cap w hL hl hs)
    rw [HO.out] at HV
    clear hL hs hf hW ho
    go_enter Tryd.func13, Tryd.ntmps13
    go_wp2_with fail
    refine HV.out.mono ?_
    rintro e w1 ⟨rfl, hb1⟩
    have q1 := Lib.hid hb1
    clear hb1 HV
    go_wp2_with fail
    go_ret2
    unfold RetFmt
    rw [HO.out]
    exact ⟨rfl, q1.out⟩

end Go.Proofs.YtklljdjeobifiaaDoor

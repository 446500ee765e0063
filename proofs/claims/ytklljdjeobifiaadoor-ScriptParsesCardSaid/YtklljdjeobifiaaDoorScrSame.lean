/-
  law51's same at equal scripts: the walk.
-/
import Derived.Test.YtklljdjeobifiaaDoorScrPlain
import Derived.BigQuiet
namespace Go.Proofs.YtklljdjeobifiaaDoor
open Go.ChangeShapes Go.WideShapes Go.ChangeAt Go.RowKit Go.Sort Go.Maps

set_option maxRecDepth 100000 in
set_option maxHeartbeats 1000000 in
theorem same_any (l : List Cm) (A B : Option Addr) (ca cb : Nat) (w : World) (hA : CmsAt w A l) (hB : CmsAt w B l) (hl : l.length ≤ 100000) (hs : ∀ c ∈ l, Sm c) :
    Calls Tryd.prog 20 #[.slice A l.length ca, .slice B l.length cb] w fun e w' => e = .returned (.bool true) ∧ Below w.heap.size w w' := by
  have HA := Lib.hid hA
  have HB := Lib.hid hB
  have HS := Lib.hid hs
  clear hA hB hs
  go_enter Tryd.func20, Tryd.ntmps20
  go_wp2_with fail
  go_loopw [14] (fun i wr => ∃ k : Nat, k ≤ l.length ∧ i = .int .i64 k ∧ Hid (Below w.heap.size w wr)) (fun i _ => l.length - (intOf i).toNat)
  case atStart => exact ⟨0, by omega, rfl, Below.refl _ _⟩
  case round =>
    obtain ⟨k, hk, rfl, hb⟩ := hrel
    by_cases hin : k < l.length
    · obtain ⟨b, o, rfl, hc⟩ := HA.out.at_ hin
      obtain ⟨b', o', rfl, hd⟩ := HB.out.at_ hin
      have HSM := Lib.hid (HS.out _ (List.getElem_mem hin))
      generalize l[k] = c at *
      obtain ⟨c0, c1, c2, A', cp, c3, hi⟩ := hc
      obtain ⟨d0, d1, d2, B', dp, d3, hj⟩ := hd
      have HC3 := Lib.hid c3
      have HD3 := Lib.hid d3
      have HI := Lib.hid hi
      have HJ := Lib.hid hj
      have hbd := Lib.hid (belowDrawn hb.out)
      have c0 := below_cell hbd.out c0
      have c1 := below_cell hbd.out c1
      have c2 := below_cell hbd.out c2
      have c3 := below_cell hbd.out c3
      have d0 := below_cell hbd.out d0
      have d1 := below_cell hbd.out d1
      have d2 := below_cell hbd.out d2
      have d3 := below_cell hbd.out d3
      have r1 : (0 : Int) ≤ k := by omega
      have r2 : (k : Int) < l.length := by omega
      have hl1 := block_lt_of_cell c0
      have hl2 := block_lt_of_cell d0
      have hk9 := HSM.out.k
      clear hi hj
      go_upto_region 6 with fail
      go_region
      generalize wr.drew = W at *
      go_upto_region 9 with fail
      clear c0 c1 c2 c3 d0 d1 d2 d3 hl1 hl2
      go_loopw [75] (fun i wx => ∃ j : Nat, j ≤ c.nums.length ∧ i = .int .i64 j ∧ Hid (Below w.heap.size w wx)) (fun i _ => c.nums.length - (intOf i).toNat)
      case atStart => exact ⟨0, by omega, rfl, hbd⟩
      case round =>
        obtain ⟨j, hj, rfl, hbj⟩ := hrel
        by_cases hjn : j < c.nums.length
        · have hbe := Lib.hid (belowDrawn hbj.out)
          obtain ⟨b2, o2, rfl, x2⟩ := HI.out.at_ hjn
          obtain ⟨b3, o3, rfl, x3⟩ := HJ.out.at_ hjn
          have x2 := below_cell hbe.out x2
          have x3 := below_cell hbe.out x3
          have e3 := below_cell hbe.out HC3.out
          have g3 := below_cell hbe.out HD3.out
          have h1 := block_lt_of_cell x2
          have h2 := block_lt_of_cell x3
          have h3 := block_lt_of_cell e3
          have h4 := block_lt_of_cell g3
          have r3 : (0 : Int) ≤ j := by omega
          have r4 : (j : Int) < c.nums.length := by omega
          generalize c.nums[j] = y at *
          go_upto_region 11 with fail
          go_region
          go_wp2_with fail
          exact ⟨⟨j + 1, by omega, by go_num, hbe⟩, by simp [intOf]; omega⟩
        · go_wp2_with fail
          exact ⟨⟨k + 1, by omega, by go_num, hbj⟩, by simp [intOf]; omega⟩
    · go_wp2_with fail
      go_ret
      exact ⟨rfl, hb.out⟩

end Go.Proofs.YtklljdjeobifiaaDoor

/-
  law51's plain: the walk.
-/
import Derived.Test.YtklljdjeobifiaaDoorScrL4
namespace Go.Proofs.YtklljdjeobifiaaDoor
open Go.ChangeShapes Go.WideShapes Go.ChangeAt Go.RowKit Go.Sort Go.Maps

theorem info_rcmd : (Tryd.prog.info? 45).map (fun i => (i.zero, i.size, i.bytes)) = some (some (.agg #[.int .u8 0, .string ⟨#[]⟩, .string ⟨#[]⟩, .slice none 0 0]), 4, 64) := by kernel_rfl
/-- A row of commands (of either type) over the memory of w. -/
structure PT (T : TypeId) (w : World) (vL : Value) (acc : List Cm) (cs : List Value) (wr : World) : Prop where
  le : Below w.heap.size w wr
  own : wr.ownsRow w.heap.size T 4 vL acc.length cs
  row : RowG (CmC w) cs acc
theorem PT.below {T : TypeId} {w : World} {vL : Value} {acc : List Cm} {cs : List Value} {wr wx : World} (h : PT T w vL acc cs wr) (hb : Below wr.heap.size wr wx) : PT T w vL acc cs wx :=
  ⟨below_step h.le h.le.size hb, own_below h.own hb, h.row⟩
theorem PT.push {T : TypeId} {w : World} {vL : Value} {acc : List Cm} {cs : List Value} {wx w6 : World} {v' : Value} {c : Cm} {c4 : List Value} (h : PT T w vL acc cs wx) (hc : CmC w c4 c) (hg : wx.grownBy w6 vL.ownBlock) (hown : w6.ownsRow w.heap.size T 4 v' (acc.length + 1) (cs ++ c4)) :
    PT T w v' (acc ++ [c]) (cs ++ c4) w6 :=
  ⟨h.le.grown hg h.le.size (fun k hk => own_block_geB h.own k hk), by rw [List.length_append]; exact hown, .snoc h.row hc⟩
theorem PT.cms {T : TypeId} {w wr : World} {vL : Value} {acc : List Cm} {cs : List Value} (h : PT T w vL acc cs wr) : ∃ A c, vL = .slice A acc.length c ∧ CmsAt wr A acc :=
  cms_of_own h.own (h.row.map fun _ _ hx => hx.mono h.le _ _)
def RetCms (l : List Cm) (w : World) (e : Ending) (w' : World) : Prop := ∃ A c, e = .returned (.slice A l.length c) ∧ CmsAt w' A l ∧ Below w.heap.size w w'
theorem take_snoc {l : List Cm} {k : Nat} (h : k < l.length) : l.take k ++ [l[k]] = l.take (k + 1) := (List.take_succ_eq_append_getElem h).symm

set_option maxRecDepth 100000 in
set_option maxHeartbeats 1000000 in
theorem plain_any (l : List Cm) (A : Option Addr) (cap : Nat) (w : World) (hL : CmsAt w A l) (hl : l.length ≤ 100000) :
    Calls Tryd.prog 21 #[.slice A l.length cap] w (RetCms l w) := by
  have HL := Lib.hid hL
  obtain ⟨i0, hi0, hz0, hz1, hz2⟩ := info_parts info_rcmd
  have HI := Lib.hid (And.intro hi0 (And.intro hz0 (And.intro hz1 hz2)))
  clear hL hi0 hz0 hz1 hz2
  go_enter Tryd.func21, Tryd.ntmps21
  go_wp2_with fail
  go_loopw [3, 4] (fun v i wr => ∃ (k : Nat) (cs : List Value), k ≤ l.length ∧ i = .int .i64 k ∧ Hid (PT 45 w v (l.take k) cs wr)) (fun _ i _ => l.length - (intOf i).toNat)
  case atStart => exact ⟨0, [], by omega, rfl, ⟨Below.refl _ _, World.ownsRow_nil _ _ _ _, .nil⟩⟩
  case round =>
    obtain ⟨k, cs, hk, rfl, hR⟩ := hrel
    by_cases hin : k < l.length
    · obtain ⟨b, o, rfl, hc⟩ := HL.out.at_ hin
      have HT := Lib.hid (take_snoc hin)
      have htl : (l.take k).length = k := by rw [List.length_take]; omega
      generalize l[k] = c at *
      obtain ⟨Av, cv, ev, _, _⟩ := own_formB hR.out.own
      rw [htl] at ev
      subst ev
      obtain ⟨c0, c1, c2, A', cp, c3, hnums⟩ := hc
      have c0 := below_cell hR.out.le c0
      have c1 := below_cell hR.out.le c1
      have c2 := below_cell hR.out.le c2
      have c3 := below_cell hR.out.le c3
      have hlb := block_lt_of_cell c0
      have r1 : (0 : Int) ≤ k := by omega
      have r2 : (k : Int) < l.length := by omega
      have b4 := below_box wr (Obj.cells #[.int .u8 c.kind, .string (bs c.name), .string (bs c.text), .slice A' c.nums.length cp] 45)
      have HO := Lib.hid (hR.out.below b4)
      have HC4 := Lib.hid (show CmC w [.int .u8 c.kind, .string (bs c.name), .string (bs c.text), .slice A' c.nums.length cp] c from ⟨A', cp, rfl, hnums⟩)
      have HON := Lib.hid (CmC.one _ c HC4.out)
      have HOW := Lib.hid (show (wr.alloc (Obj.cells #[.int .u8 c.kind, .string (bs c.name), .string (bs c.text), .slice A' c.nums.length cp] 45)).ownsRow w.heap.size 45 4 (.slice Av k cv) k cs by have := HO.out.own; rw [htl] at this; exact this)
      have HP := Lib.hid (fun (v' : Value) (w6 : World) hg (ho : w6.ownsRow w.heap.size 45 4 v' (k + 1) (cs ++ [.int .u8 c.kind, .string (bs c.name), .string (bs c.text), .slice A' c.nums.length cp])) => show PT 45 w v' (l.take (k + 1)) _ w6 by
        rw [← HT.out]
        exact HO.out.push HC4.out hg (by rw [htl]; exact ho))
      clear b4 hR hnums htl
      go_wp2_with (at_builtin; go_loud (refine wpList_app _ rfl (.tmp 11) (.tmp 16) 22 rfl w.heap.size 45 i0 (.agg #[.int .u8 0, .string ⟨#[]⟩, .string ⟨#[]⟩, .slice none 0 0]) 4 64 Tryd.underlying22 HI.out.1 HI.out.2.1 HI.out.2.2.1 HI.out.2.2.2 rfl (by decide) _ k cs rfl HOW.out (some ⟨wr.heap.size, 0, none⟩) 1 1 [.int .u8 c.kind, .string (bs c.name), .string (bs c.text), .slice A' c.nums.length cp] rfl rfl (cells_newU wr rfl _ _) HON.out (by unfold maxLen; omega) (by omega) HO.out.le.size ?_; intro v' w6 hown' hgrow _; have NX := Lib.hid (HP.out _ _ hgrow hown'); clear hown' hgrow))
      exact ⟨⟨k + 1, _, by omega, by go_num, NX⟩, by simp [intOf]; omega⟩
    · obtain rfl : k = l.length := by omega
      rw [List.take_length] at hR
      obtain ⟨Av, cv, rfl, hC⟩ := hR.out.cms
      have HC := Lib.hid hC
      clear hC
      go_wp2_with fail
      go_ret
      exact ⟨Av, cv, rfl, HC.out, hR.out.le⟩

set_option maxRecDepth 100000 in
set_option maxHeartbeats 1000000 in
theorem given_any (l : List Cm) (A : Option Addr) (cap : Nat) (w : World) (hL : CmsAt w A l) (hl : l.length ≤ 100000) :
    Calls Tryd.prog 14 #[.slice A l.length cap] w (RetCms l w) := by
  have HL := Lib.hid hL
  obtain ⟨i0, hi0, hz0, hz1, hz2⟩ := info_parts info_cmd
  have HI := Lib.hid (And.intro hi0 (And.intro hz0 (And.intro hz1 hz2)))
  clear hL hi0 hz0 hz1 hz2
  go_enter Tryd.func14, Tryd.ntmps14
  go_wp2_with fail
  go_loopw [3, 4] (fun v i wr => ∃ (k : Nat) (cs : List Value), k ≤ l.length ∧ i = .int .i64 k ∧ Hid (PT 42 w v (l.take k) cs wr)) (fun _ i _ => l.length - (intOf i).toNat)
  case atStart => exact ⟨0, [], by omega, rfl, ⟨Below.refl _ _, World.ownsRow_nil _ _ _ _, .nil⟩⟩
  case round =>
    obtain ⟨k, cs, hk, rfl, hR⟩ := hrel
    by_cases hin : k < l.length
    · obtain ⟨b, o, rfl, hc⟩ := HL.out.at_ hin
      have HT := Lib.hid (take_snoc hin)
      have htl : (l.take k).length = k := by rw [List.length_take]; omega
      generalize l[k] = c at *
      obtain ⟨Av, cv, ev, _, _⟩ := own_formB hR.out.own
      rw [htl] at ev
      subst ev
      obtain ⟨c0, c1, c2, A', cp, c3, hnums⟩ := hc
      have c0 := below_cell hR.out.le c0
      have c1 := below_cell hR.out.le c1
      have c2 := below_cell hR.out.le c2
      have c3 := below_cell hR.out.le c3
      have hlb := block_lt_of_cell c0
      have r1 : (0 : Int) ≤ k := by omega
      have r2 : (k : Int) < l.length := by omega
      have b4 := below_box wr (Obj.cells #[.int .u8 c.kind, .string (bs c.name), .string (bs c.text), .slice A' c.nums.length cp] 42)
      have HO := Lib.hid (hR.out.below b4)
      have HC4 := Lib.hid (show CmC w [.int .u8 c.kind, .string (bs c.name), .string (bs c.text), .slice A' c.nums.length cp] c from ⟨A', cp, rfl, hnums⟩)
      have HON := Lib.hid (CmC.one _ c HC4.out)
      have HOW := Lib.hid (show (wr.alloc (Obj.cells #[.int .u8 c.kind, .string (bs c.name), .string (bs c.text), .slice A' c.nums.length cp] 42)).ownsRow w.heap.size 42 4 (.slice Av k cv) k cs by have := HO.out.own; rw [htl] at this; exact this)
      have HP := Lib.hid (fun (v' : Value) (w6 : World) hg (ho : w6.ownsRow w.heap.size 42 4 v' (k + 1) (cs ++ [.int .u8 c.kind, .string (bs c.name), .string (bs c.text), .slice A' c.nums.length cp])) => show PT 42 w v' (l.take (k + 1)) _ w6 by
        rw [← HT.out]
        exact HO.out.push HC4.out hg (by rw [htl]; exact ho))
      clear b4 hR hnums htl
      go_wp2_with (at_builtin; go_loud (refine wpList_app _ rfl (.tmp 11) (.tmp 16) 28 rfl w.heap.size 42 i0 (.agg #[.int .u8 0, .string ⟨#[]⟩, .string ⟨#[]⟩, .slice none 0 0]) 4 64 Tryd.underlying28 HI.out.1 HI.out.2.1 HI.out.2.2.1 HI.out.2.2.2 rfl (by decide) _ k cs rfl HOW.out (some ⟨wr.heap.size, 0, none⟩) 1 1 [.int .u8 c.kind, .string (bs c.name), .string (bs c.text), .slice A' c.nums.length cp] rfl rfl (cells_newU wr rfl _ _) HON.out (by unfold maxLen; omega) (by omega) HO.out.le.size ?_; intro v' w6 hown' hgrow _; have NX := Lib.hid (HP.out _ _ hgrow hown'); clear hown' hgrow))
      exact ⟨⟨k + 1, _, by omega, by go_num, NX⟩, by simp [intOf]; omega⟩
    · obtain rfl : k = l.length := by omega
      rw [List.take_length] at hR
      obtain ⟨Av, cv, rfl, hC⟩ := hR.out.cms
      have HC := Lib.hid hC
      clear hC
      go_wp2_with fail
      go_ret
      exact ⟨Av, cv, rfl, HC.out, hR.out.le⟩

end Go.Proofs.YtklljdjeobifiaaDoor

/-
  The contracts of the small functions of the reference of layer 22.
-/
import Derived.Test.YtodiijoeeeeicaaDoorAsmIsaR
import Derived.Test.YtodiijoeeeeicaaDoorAsmRow
import Derived.Test.YtodiijoeeeeicaaDoorAsmTake
import Derived.Test.YtodiijoeeeeicaaDoorAsmDec
import Derived.StillTailTactics
namespace Go.Proofs.YtodiijoeeeeicaaDoor
open Go.ChangeShapes Go.WideShapes Go.ChangeAt Go.RowKit Go.Sort

theorem rvalid_any (op : Nat) (hx : op < 256) (A B C D : Int) (w : World) :
    Calls Tryd.prog 54 #[.agg #[.int .u8 op, .int .i64 A, .int .i64 B, .int .i64 C, .int .i64 D]] w fun e w' => e = .returned (.bool (validB op A B C D)) ∧ Below w.heap.size w w' := by
  rw [valid_ref]; exact refValid_any op hx A B C D w
set_option maxRecDepth 100000 in
set_option maxHeartbeats 1000000 in
theorem rclasses_any (op : Nat) (hx : op < 256) (w : World) :
    Calls Tryd.prog 39 #[.int .u8 op] w fun e w' => e = .returned (.tuple #[.string (bs (clsL op)), .bool (decide (op < 35))]) ∧ Below w.heap.size w w' := by
  by_cases h35 : op < 35
  · go_enter Tryd.func39, Tryd.ntmps39
    go_wp2
    go_ret2
    refine ⟨congrArg Ending.returned ?_, (Below.refl _ _).alloc (Nat.le_refl _) _⟩
    rcases lt35 h35 with rfl | rfl | rfl | rfl | rfl | rfl | rfl | rfl | rfl | rfl | rfl | rfl | rfl | rfl | rfl | rfl | rfl | rfl | rfl | rfl | rfl | rfl | rfl | rfl | rfl | rfl | rfl | rfl | rfl | rfl | rfl | rfl | rfl | rfl | rfl <;> rfl
  · have hm := Lib.hid (clsL_hi h35)
    have hd := Lib.hid (show decide (op < 35) = false by simp [h35])
    go_enter Tryd.func39, Tryd.ntmps39
    go_wp2
    go_ret2
    exact ⟨by rw [hm.out, hd.out]; rfl, (Below.refl _ _).alloc (Nat.le_refl _) _⟩
theorem rwidth_any (c : UInt8) (hc : c = 114 ∨ c = 107 ∨ c = 110 ∨ c = 116 ∨ c = 101 ∨ c = 111) (w : World) :
    Calls Tryd.prog 41 #[.int .u8 c.toNat] w fun e w' => e = .returned (.int .i64 (wid c)) ∧ w = w' := by
  rcases hc with rfl | rfl | rfl | rfl | rfl | rfl
  all_goals
    go_enter Tryd.func41, Tryd.ntmps41
    go_wp2
    go_ret
    exact ⟨rfl, rfl⟩
theorem ropd_any (op : Nat) (A B C D : Int) (k : Nat) (hk : k < 4) (w : World) :
    Calls Tryd.prog 40 #[.agg #[.int .u8 op, .int .i64 A, .int .i64 B, .int .i64 C, .int .i64 D], .int .i64 k] w fun e w' => e = .returned (.int .i64 (opd A B C D k)) ∧ Below w.heap.size w w' := by
  have : k = 0 ∨ k = 1 ∨ k = 2 ∨ k = 3 := by omega
  clear hk
  have hb1 := below_box w (Obj.cells #[.int .u8 op, .int .i64 A, .int .i64 B, .int .i64 C, .int .i64 D] 43)
  have hb := below_step hb1 hb1.size (below_box (w.alloc (Obj.cells #[.int .u8 op, .int .i64 A, .int .i64 B, .int .i64 C, .int .i64 D] 43)) (Obj.cells #[.int .i64 A, .int .i64 B, .int .i64 C, .int .i64 D] 3))
  have HB := Lib.hid hb
  clear hb1 hb
  rcases this with rfl | rfl | rfl | rfl
  all_goals
    go_enter Tryd.func40, Tryd.ntmps40
    go_wp2
    go_ret
    exact ⟨rfl, HB.out⟩
/-- An instruction with one operand replaced. -/
def setO (x : Ins) (k : Nat) (v : Int) : Ins := match k with
  | 0 => { x with a := v }
  | 1 => { x with b := v }
  | 2 => { x with c := v }
  | _ => { x with d := v }
/-- Three blocks that lie one behind the other. -/
theorem three (w : World) (a b c : Array Value) (ta tb tc : TypeId) : Bx (((w.alloc (Obj.cells a ta)).alloc (Obj.cells b tb)).alloc (Obj.cells c tc)) w.heap.size a ∧ Bx (((w.alloc (Obj.cells a ta)).alloc (Obj.cells b tb)).alloc (Obj.cells c tc)) (w.heap.size + 1) b ∧ Bx (((w.alloc (Obj.cells a ta)).alloc (Obj.cells b tb)).alloc (Obj.cells c tc)) (w.heap.size + 1 + 1) c ∧ Below w.heap.size w (((w.alloc (Obj.cells a ta)).alloc (Obj.cells b tb)).alloc (Obj.cells c tc)) := by
  have q1 := below_box w (Obj.cells a ta)
  have q2 := below_box (w.alloc (Obj.cells a ta)) (Obj.cells b tb)
  have q3 := below_box ((w.alloc (Obj.cells a ta)).alloc (Obj.cells b tb)) (Obj.cells c tc)
  have z1 : (w.alloc (Obj.cells a ta)).heap.size = w.heap.size + 1 := by simp
  have z2 : ((w.alloc (Obj.cells a ta)).alloc (Obj.cells b tb)).heap.size = w.heap.size + 1 + 1 := by simp
  have h1 := ((bx_new w a ta).below q2).below q3
  have h2 := (bx_new (w.alloc (Obj.cells a ta)) b tb).below q3
  have h3 := bx_new ((w.alloc (Obj.cells a ta)).alloc (Obj.cells b tb)) c tc
  rw [z1] at h2
  rw [z2] at h3
  have q12 := below_step q1 q1.size q2
  exact ⟨h1, h2, h3, below_step q12 q12.size q3⟩
set_option maxRecDepth 100000 in
set_option maxHeartbeats 2000000 in
theorem rset_any (x : Ins) (k : Nat) (hk : k < 4) (v : Int) (w : World) :
    Calls Tryd.prog 53 #[.agg #[.int .u8 x.op, .int .i64 x.a, .int .i64 x.b, .int .i64 x.c, .int .i64 x.d], .int .i64 k, .int .i64 v] w fun e w' => e = .returned (setO x k v).val ∧ Below w.heap.size w w' := by
  have hk4 : k = 0 ∨ k = 1 ∨ k = 2 ∨ k = 3 := by omega
  have H := Lib.hid (three w #[.int .u8 x.op, .int .i64 x.a, .int .i64 x.b, .int .i64 x.c, .int .i64 x.d] #[.int .u8 0, .int .i64 0, .int .i64 0, .int .i64 0, .int .i64 0] #[.int .i64 (setO x k v).a, .int .i64 (setO x k v).b, .int .i64 (setO x k v).c, .int .i64 (setO x k v).d] 43 43 3)
  clear hk
  rcases hk4 with rfl | rfl | rfl | rfl
  · go_enter Tryd.func53, Tryd.ntmps53
    go_wp2_with fail
    simp only [setO] at H
    generalize ((w.alloc _).alloc _).alloc _ = W at H ⊢
    obtain ⟨a0, a1, a2, a3, a4, _⟩ := H.out.1.five
    obtain ⟨⟨y0, y1, y2, y3, y4⟩, f0, f1, f2, f3, f4⟩ := H.out.2.1.fives
    obtain ⟨c0, c1, c2, c3, _⟩ := H.out.2.2.1.four
    go_still_tail 15, (by kernel_rfl)
    change wpList _ _ _ _ _ W.drew
    go_wp2_with fail
    have HF := Lib.hid (And.intro (H.out.2.1.set5 (.int .u8 x.op) (.int .i64 v) (.int .i64 x.b) (.int .i64 x.c) (.int .i64 x.d)) (below_set5 H.out.2.2.2 (Nat.le_add_right w.heap.size 1) (.int .u8 x.op) (.int .i64 v) (.int .i64 x.b) (.int .i64 x.c) (.int .i64 x.d)))
    generalize World.setCell _ _ _ = WF at HF ⊢
    obtain ⟨⟨g0, g1, g2, g3, g4⟩, _⟩ := HF.out.1.fives
    exact bodyPost_ret (v := .agg #[.int .u8 x.op, .int .i64 v, .int .i64 x.b, .int .i64 x.c, .int .i64 x.d]) (by simp [results, Tryd.results53, go_sem, g0, g1, g2, g3, g4]) rfl ⟨rfl, belowDrawn HF.out.2⟩
  · go_enter Tryd.func53, Tryd.ntmps53
    go_wp2_with fail
    simp only [setO] at H
    generalize ((w.alloc _).alloc _).alloc _ = W at H ⊢
    obtain ⟨a0, a1, a2, a3, a4, _⟩ := H.out.1.five
    obtain ⟨⟨y0, y1, y2, y3, y4⟩, f0, f1, f2, f3, f4⟩ := H.out.2.1.fives
    obtain ⟨c0, c1, c2, c3, _⟩ := H.out.2.2.1.four
    go_still_tail 15, (by kernel_rfl)
    change wpList _ _ _ _ _ W.drew
    go_wp2_with fail
    have HF := Lib.hid (And.intro (H.out.2.1.set5 (.int .u8 x.op) (.int .i64 x.a) (.int .i64 v) (.int .i64 x.c) (.int .i64 x.d)) (below_set5 H.out.2.2.2 (Nat.le_add_right w.heap.size 1) (.int .u8 x.op) (.int .i64 x.a) (.int .i64 v) (.int .i64 x.c) (.int .i64 x.d)))
    generalize World.setCell _ _ _ = WF at HF ⊢
    obtain ⟨⟨g0, g1, g2, g3, g4⟩, _⟩ := HF.out.1.fives
    exact bodyPost_ret (v := .agg #[.int .u8 x.op, .int .i64 x.a, .int .i64 v, .int .i64 x.c, .int .i64 x.d]) (by simp [results, Tryd.results53, go_sem, g0, g1, g2, g3, g4]) rfl ⟨rfl, belowDrawn HF.out.2⟩
  · go_enter Tryd.func53, Tryd.ntmps53
    go_wp2_with fail
    simp only [setO] at H
    generalize ((w.alloc _).alloc _).alloc _ = W at H ⊢
    obtain ⟨a0, a1, a2, a3, a4, _⟩ := H.out.1.five
    obtain ⟨⟨y0, y1, y2, y3, y4⟩, f0, f1, f2, f3, f4⟩ := H.out.2.1.fives
    obtain ⟨c0, c1, c2, c3, _⟩ := H.out.2.2.1.four
    go_still_tail 15, (by kernel_rfl)
    change wpList _ _ _ _ _ W.drew
    go_wp2_with fail
    have HF := Lib.hid (And.intro (H.out.2.1.set5 (.int .u8 x.op) (.int .i64 x.a) (.int .i64 x.b) (.int .i64 v) (.int .i64 x.d)) (below_set5 H.out.2.2.2 (Nat.le_add_right w.heap.size 1) (.int .u8 x.op) (.int .i64 x.a) (.int .i64 x.b) (.int .i64 v) (.int .i64 x.d)))
    generalize World.setCell _ _ _ = WF at HF ⊢
    obtain ⟨⟨g0, g1, g2, g3, g4⟩, _⟩ := HF.out.1.fives
    exact bodyPost_ret (v := .agg #[.int .u8 x.op, .int .i64 x.a, .int .i64 x.b, .int .i64 v, .int .i64 x.d]) (by simp [results, Tryd.results53, go_sem, g0, g1, g2, g3, g4]) rfl ⟨rfl, belowDrawn HF.out.2⟩
  · go_enter Tryd.func53, Tryd.ntmps53
    go_wp2_with fail
    simp only [setO] at H
    generalize ((w.alloc _).alloc _).alloc _ = W at H ⊢
    obtain ⟨a0, a1, a2, a3, a4, _⟩ := H.out.1.five
    obtain ⟨⟨y0, y1, y2, y3, y4⟩, f0, f1, f2, f3, f4⟩ := H.out.2.1.fives
    obtain ⟨c0, c1, c2, c3, _⟩ := H.out.2.2.1.four
    go_still_tail 15, (by kernel_rfl)
    change wpList _ _ _ _ _ W.drew
    go_wp2_with fail
    have HF := Lib.hid (And.intro (H.out.2.1.set5 (.int .u8 x.op) (.int .i64 x.a) (.int .i64 x.b) (.int .i64 x.c) (.int .i64 v)) (below_set5 H.out.2.2.2 (Nat.le_add_right w.heap.size 1) (.int .u8 x.op) (.int .i64 x.a) (.int .i64 x.b) (.int .i64 x.c) (.int .i64 v)))
    generalize World.setCell _ _ _ = WF at HF ⊢
    obtain ⟨⟨g0, g1, g2, g3, g4⟩, _⟩ := HF.out.1.fives
    exact bodyPost_ret (v := .agg #[.int .u8 x.op, .int .i64 x.a, .int .i64 x.b, .int .i64 x.c, .int .i64 v]) (by simp [results, Tryd.results53, go_sem, g0, g1, g2, g3, g4]) rfl ⟨rfl, belowDrawn HF.out.2⟩

end Go.Proofs.YtodiijoeeeeicaaDoor

/-
  The walk of the law IsaInverts.
-/
import Derived.Test.YtfcfmljndlmkbaaDoorIsaLaws
namespace Go.Proofs.YtfcfmljndlmkbaaDoor
open Go.ChangeShapes Go.WideShapes Go.ChangeAt Go.RowKit Go.Sort

set_option maxRecDepth 100000 in
set_option maxHeartbeats 400000 in
theorem isaInverts_walk (op : Nat) (hx : op < 256) (A B C D : Int) (w : World) (hT : Tab w) :
    Calls Tryd.prog 4 #[.agg #[.int .u8 op, .int .i64 A, .int .i64 B, .int .i64 C, .int .i64 D]] w fun e w' => e = .returned (.bool true) ∧ Below w.heap.size w w' := by
  have ib := insAt_box w 23 op A B C D
  have hTW := Lib.hid (hT.alloc (Obj.cells #[Value.int IntKind.u8 ↑op, Value.int IntKind.i64 A, Value.int IntKind.i64 B, Value.int IntKind.i64 C, Value.int IntKind.i64 D] 23))
  have hbW := below_box w (Obj.cells #[Value.int IntKind.u8 ↑op, Value.int IntKind.i64 A, Value.int IntKind.i64 B, Value.int IntKind.i64 C, Value.int IntKind.i64 D] 23)
  clear hT
  go_enter Tryd.func4, Tryd.ntmps4
  go_wp2_with fail
  generalize w.alloc _ = W at ib hTW hbW ⊢
  refine (awake21_any _ hTW.out).mono ?_
  rintro e w1 ⟨rfl, hb1⟩
  have ib1 := ib.mono hb1
  have hT1 := Lib.hid (hTW.out.mono hb1)
  have q1 := below_step hbW hbW.size hb1
  clear ib hTW hbW hb1
  obtain ⟨c0, c1, c2, c3, c4, fz⟩ := id ib1
  have s1 := ib1.lt
  go_wp2_with fail
  have iw := insAt_box w1 23 op A B C D
  have ia := ib1.mono (below_box w1 (Obj.cells #[Value.int IntKind.u8 ↑op, Value.int IntKind.i64 A, Value.int IntKind.i64 B, Value.int IntKind.i64 C, Value.int IntKind.i64 D] 23))
  have qa := below_step q1 q1.size (below_box w1 (Obj.cells #[Value.int IntKind.u8 ↑op, Value.int IntKind.i64 A, Value.int IntKind.i64 B, Value.int IntKind.i64 C, Value.int IntKind.i64 D] 23))
  generalize w1.alloc _ = Wa at iw ia qa ⊢
  refine (refInverse_any op _).mono ?_
  rintro e w2 ⟨rfl, hb2⟩
  have iw2 := iw.mono hb2
  have ia2 := ia.mono hb2
  have q2 := below_step qa qa.size hb2
  clear iw ia qa ib1 c0 c1 c2 c3 c4 fz
  obtain ⟨c0, c1, c2, c3, c4, fz⟩ := id ia2
  obtain ⟨e0, e1, e2, e3, e4, ez⟩ := id iw2
  go_wp2
  have iw3 := iw2.setOp (invN op)
  have ia3 := ia2.setOther w1.heap.size 0 (.int .u8 (invN op)) (by omega)
  have q3 : Below w.heap.size w (w2.setCell ⟨w1.heap.size, 0, none⟩ (.int .u8 (invN op))) := q2.setCell (Nat.le_of_lt s1) _
  clear c0 c1 c2 c3 c4 fz e0 e1 e2 e3 e4 ez
  generalize w2.setCell _ _ = W3 at iw3 ia3 q3 ⊢
  obtain ⟨c0, c1, c2, c3, c4, fz⟩ := id ia3
  obtain ⟨e0, e1, e2, e3, e4, ez⟩ := id iw3
  have d0 := cell_regrown c0
  have d1 := cell_regrown c1
  have d2 := cell_regrown c2
  have d3 := cell_regrown c3
  have d4 := cell_regrown c4
  have f0 := cell_regrown e0
  have f1 := cell_regrown e1
  have f2 := cell_regrown e2
  have f3 := cell_regrown e3
  have f4 := cell_regrown e4
  refine wp_region_quiet_below (by kernel_rfl) (by kernel_rfl) ?_
  repeat (go_big_quiet_step ((go_at_call 15; exact Calls.regrown_of (inverse_any op hx A B C D _))))
  refine wpQuiet_nil ?_
  intro wq hw'
  obtain ⟨⟨dq, osq⟩, hw''⟩ := hw'
  have hbq := below_regrown W3 dq osq
  rw [← hw''] at hbq
  clear hw''
  go_wp2
  go_ret
  exact ⟨rfl, below_step q3 q3.size hbq⟩

end Go.Proofs.YtfcfmljndlmkbaaDoor

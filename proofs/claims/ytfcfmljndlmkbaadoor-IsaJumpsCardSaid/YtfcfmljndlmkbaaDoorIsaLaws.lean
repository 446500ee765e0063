/-
  The walks of the laws of layer 21.
-/
import Derived.Test.YtfcfmljndlmkbaaDoorIsaAwake
namespace Go.Proofs.YtfcfmljndlmkbaaDoor
open Go.ChangeShapes Go.WideShapes Go.ChangeAt Go.RowKit Go.Sort

theorem insAt_box (w : World) (T : TypeId) (op : Nat) (A B C D : Int) : InsAt (w.alloc (Obj.cells #[Value.int IntKind.u8 ↑op, Value.int IntKind.i64 A, Value.int IntKind.i64 B, Value.int IntKind.i64 C, Value.int IntKind.i64 D] T)) w.heap.size op A B C D := by
  constructor <;> simp [go_sem]
theorem below_box (w : World) (o : Obj) : Below w.heap.size w (w.alloc o) := (Below.refl _ _).alloc (Nat.le_refl _) _

set_option maxRecDepth 100000 in
set_option maxHeartbeats 400000 in
theorem isaValid_walk (op : Nat) (hx : op < 256) (A B C D : Int) (w : World) (hT : Tab w) :
    Calls Tryd.prog 3 #[.agg #[.int .u8 op, .int .i64 A, .int .i64 B, .int .i64 C, .int .i64 D]] w fun e w' => e = .returned (.bool true) ∧ Below w.heap.size w w' := by
  have ib := insAt_box w 23 op A B C D
  have hTW := Lib.hid (hT.alloc (Obj.cells #[Value.int IntKind.u8 ↑op, Value.int IntKind.i64 A, Value.int IntKind.i64 B, Value.int IntKind.i64 C, Value.int IntKind.i64 D] 23))
  have hbW := below_box w (Obj.cells #[Value.int IntKind.u8 ↑op, Value.int IntKind.i64 A, Value.int IntKind.i64 B, Value.int IntKind.i64 C, Value.int IntKind.i64 D] 23)
  clear hT
  go_enter Tryd.func3, Tryd.ntmps3
  go_wp2
  generalize w.alloc _ = W at ib hTW hbW ⊢
  obtain ⟨c0, c1, c2, c3, c4, fz⟩ := ib
  have d0 := cell_regrown c0
  have d1 := cell_regrown c1
  have d2 := cell_regrown c2
  have d3 := cell_regrown c3
  have d4 := cell_regrown c4
  have hsz : w.heap.size ≤ W.heap.size := hbW.size
  refine wp_region_quiet_below (by kernel_rfl) (by kernel_rfl) ?_
  repeat (go_big_quiet_step ((first | (go_at_call 11; exact Calls.regrown_of (awake21_any _ (hTW.out.mono (below_regrown _ _ _)))) | (go_at_call 12; exact Calls.regrown_of (valid_any op hx A B C D _ (hTW.out.mono (below_regrown _ _ _)))) | (go_at_call 13; exact Calls.regrown_of (refValid_any op hx A B C D _)))))
  refine wpQuiet_nil ?_
  intro wq hw'
  obtain ⟨⟨dq, osq⟩, hw''⟩ := hw'
  have hbq := below_regrown W dq osq
  rw [← hw''] at hbq
  clear hw''
  go_wp2
  go_ret
  exact ⟨ret_bool (by rw [valid_ref]; simp), below_step hbW hsz hbq⟩

end Go.Proofs.YtfcfmljndlmkbaaDoor

/-
  The walks of the laws IsaTargets and IsaMoves.
-/
import Derived.Test.YtfcfmljndlmkbaaDoorIsaLaws
namespace Go.Proofs.YtfcfmljndlmkbaaDoor
open Go.ChangeShapes Go.WideShapes Go.ChangeAt Go.RowKit Go.Sort

theorem tk_cases (op : Nat) : (tgtK op = 1 ∧ firstT (shapeL op) 0 = 0) ∨ (tgtK op = 2 ∧ firstT (shapeL op) 0 = 1) ∨ (tgtK op = 0 ∧ firstT (shapeL op) 0 = -1) := by
  by_cases h35 : op < 35
  · rcases op_cases h35 with rfl | rfl | rfl | rfl | rfl | rfl | rfl | rfl | rfl | rfl | rfl | rfl | rfl | rfl | rfl | rfl | rfl | rfl | rfl | rfl | rfl | rfl | rfl | rfl | rfl | rfl | rfl | rfl | rfl | rfl | rfl | rfl | rfl | rfl | rfl <;> decide
  · refine .inr (.inr ⟨tgtK_hi h35, ?_⟩)
    rw [shapeL_hi h35]; rfl

theorem tgt_of1 {op : Nat} (h : tgtK op = 1) (A B : Int) : tgt op A B = A := by simp [tgt, h]
theorem tgt_of2 {op : Nat} (h : tgtK op = 2) (A B : Int) : tgt op A B = B := by simp [tgt, h]
theorem tgt_of0 {op : Nat} (h : tgtK op = 0) (A B : Int) : tgt op A B = 0 := by simp [tgt, h]
theorem retA_of1 {op : Nat} (h : tgtK op = 1) (A to : Int) : retA op A to = to := by simp [retA, h]
theorem retA_of2 {op : Nat} (h : tgtK op = 2) (A to : Int) : retA op A to = A := by simp [retA, h]
theorem retA_of0 {op : Nat} (h : tgtK op = 0) (A to : Int) : retA op A to = A := by simp [retA, h]
theorem retB_of1 {op : Nat} (h : tgtK op = 1) (B to : Int) : retB op B to = B := by simp [retB, h]
theorem retB_of2 {op : Nat} (h : tgtK op = 2) (B to : Int) : retB op B to = to := by simp [retB, h]
theorem retB_of0 {op : Nat} (h : tgtK op = 0) (B to : Int) : retB op B to = B := by simp [retB, h]

set_option maxRecDepth 100000 in
set_option maxHeartbeats 800000 in
theorem isaTargets_walk (op : Nat) (hx : op < 256) (A B C D to : Int) (w : World) (hT : Tab w) :
    Calls Tryd.prog 7 #[.agg #[.int .u8 op, .int .i64 A, .int .i64 B, .int .i64 C, .int .i64 D], .int .i64 to] w fun e w' => e = .returned (.bool true) ∧ Below w.heap.size w w' := by
  have ib := insAt_box w 23 op A B C D
  have hTW := Lib.hid (hT.alloc (Obj.cells #[Value.int IntKind.u8 ↑op, Value.int IntKind.i64 A, Value.int IntKind.i64 B, Value.int IntKind.i64 C, Value.int IntKind.i64 D] 23))
  have hbW := below_box w (Obj.cells #[Value.int IntKind.u8 ↑op, Value.int IntKind.i64 A, Value.int IntKind.i64 B, Value.int IntKind.i64 C, Value.int IntKind.i64 D] 23)
  clear hT
  go_enter Tryd.func7, Tryd.ntmps7
  go_wp2_with fail
  generalize w.alloc _ = W at ib hTW hbW ⊢
  refine (awake21_any _ hTW.out).mono ?_
  rintro e w1 ⟨rfl, hb1⟩
  have ib1 := ib.mono hb1
  have hT1 := Lib.hid (hTW.out.mono hb1)
  have q1 := below_step hbW hbW.size hb1
  clear ib hTW hbW hb1
  obtain ⟨c0, c1, c2, c3, c4, fz⟩ := id ib1
  have s1 := ib1.lt
  go_wp2_with fail
  refine (target_any op hx A B C D _).mono ?_
  rintro e w2 ⟨rfl, hb2⟩
  have ib2 := ib1.mono hb2
  have q2 := below_step q1 q1.size hb2
  have s2 := ib2.lt
  clear ib1 q1 hT1 hb2 c0 c1 c2 c3 c4 fz s1
  obtain ⟨c0, c1, c2, c3, c4, fz⟩ := id ib2
  go_wp2_with fail
  refine (retarget_any op hx A B C D to _).mono ?_
  rintro e w3 ⟨rfl, hb3⟩
  have ib3 := ib2.mono hb3
  have q3 := below_step q2 q2.size hb3
  have s3 := ib3.lt
  clear ib2 q2 hb3 c0 c1 c2 c3 c4 fz s2
  obtain ⟨c0, c1, c2, c3, c4, fz⟩ := id ib3
  go_wp2_with fail
  have ij := insAt_box w3 23 op (retA op A to) (retB op B to) C D
  have hbx := below_box w3 (Obj.cells #[Value.int IntKind.u8 ↑op, Value.int IntKind.i64 (retA op A to), Value.int IntKind.i64 (retB op B to), Value.int IntKind.i64 C, Value.int IntKind.i64 D] 23)
  have ii := ib3.mono hbx
  have q4 := below_step q3 q3.size hbx
  clear hbx ib3 q3 c0 c1 c2 c3 c4 fz
  generalize w3.alloc _ = W4 at ij ii q4 ⊢
  refine (refTarget_any op hx _).mono ?_
  rintro e w5 ⟨rfl, rfl⟩
  obtain ⟨c0, c1, c2, c3, c4, fz⟩ := id ii
  obtain ⟨e0, e1, e2, e3, e4, ez⟩ := id ij
  clear ii ij
  rcases tk_cases op with ⟨k1, k2⟩ | ⟨k1, k2⟩ | ⟨k1, k2⟩
  case inl =>
    have g1 := tgt_of1 k1 A B
    rw [retA_of1 k1] at e1
    rw [retB_of1 k1] at e2
    go_wp2
    go_ret
    exact ⟨rfl, q4⟩
  case inr.inl =>
    have g1 := tgt_of2 k1 A B
    rw [retA_of2 k1] at e1
    rw [retB_of2 k1] at e2
    go_wp2
    go_ret
    exact ⟨rfl, q4⟩
  case inr.inr =>
    have g1 := tgt_of0 k1 A B
    rw [retA_of0 k1] at e1
    rw [retB_of0 k1] at e2
    go_wp2
    go_ret
    exact ⟨rfl, q4⟩

set_option maxRecDepth 100000 in
set_option maxHeartbeats 800000 in
theorem isaMoves_walk (op : Nat) (hx : op < 256) (A B C D x y : Int) (w : World) (hT : Tab w) :
    Calls Tryd.prog 8 #[.agg #[.int .u8 op, .int .i64 A, .int .i64 B, .int .i64 C, .int .i64 D], .int .i64 x, .int .i64 y] w fun e w' => e = .returned (.bool true) ∧ Below w.heap.size w w' := by
  have ib := insAt_box w 23 op A B C D
  have hTW := Lib.hid (hT.alloc (Obj.cells #[Value.int IntKind.u8 ↑op, Value.int IntKind.i64 A, Value.int IntKind.i64 B, Value.int IntKind.i64 C, Value.int IntKind.i64 D] 23))
  have hbW := below_box w (Obj.cells #[Value.int IntKind.u8 ↑op, Value.int IntKind.i64 A, Value.int IntKind.i64 B, Value.int IntKind.i64 C, Value.int IntKind.i64 D] 23)
  clear hT
  go_enter Tryd.func8, Tryd.ntmps8
  go_wp2_with fail
  generalize w.alloc _ = W at ib hTW hbW ⊢
  refine (awake21_any _ hTW.out).mono ?_
  rintro e w1 ⟨rfl, hb1⟩
  have ib1 := ib.mono hb1
  have hT1 := Lib.hid (hTW.out.mono hb1)
  have q1 := below_step hbW hbW.size hb1
  clear ib hTW hbW hb1
  obtain ⟨c0, c1, c2, c3, c4, fz⟩ := id ib1
  have s1 := ib1.lt
  go_wp2_with fail
  refine (target_any op hx A B C D _).mono ?_
  rintro e w2 ⟨rfl, hb2⟩
  have ib2 := ib1.mono hb2
  have q2 := below_step q1 q1.size hb2
  have s2 := ib2.lt
  clear ib1 q1 hT1 hb2 c0 c1 c2 c3 c4 fz s1
  obtain ⟨c0, c1, c2, c3, c4, fz⟩ := id ib2
  rcases tk_cases op with ⟨k1, k2⟩ | ⟨k1, k2⟩ | ⟨k1, k2⟩
  case inr.inr =>
    have g2 := retA_of0 k1 A x
    have g3 := retB_of0 k1 B x
    clear k2
    have d0 := cell_regrown c0
    have d1 := cell_regrown c1
    have d2 := cell_regrown c2
    have d3 := cell_regrown c3
    have d4 := cell_regrown c4
    go_wp2
    refine wp_region_quiet_below (by kernel_rfl) (by kernel_rfl) ?_
    repeat (go_big_quiet_step ((go_at_call 19; exact Calls.regrown_of (retarget_any op hx A B C D x _))))
    refine wpQuiet_nil ?_
    intro wq hw'
    obtain ⟨⟨dq, osq⟩, hw''⟩ := hw'
    have hbq := below_regrown w2 dq osq
    rw [← hw''] at hbq
    clear hw''
    go_wp2
    go_ret
    exact ⟨rfl, below_step q2 q2.size hbq⟩
  case inl =>
    have g1 := tgt_of1 k1
    have g2 := retA_of1 k1
    have g3 := retB_of1 k1
    clear k2
    go_wp2_with fail
    refine (retarget_any op hx A B C D x _).mono ?_
    rintro e w3 ⟨rfl, hb3⟩
    have ib3 := ib2.mono hb3
    have q3 := below_step q2 q2.size hb3
    have s3 := ib3.lt
    clear ib2 q2 hb3 c0 c1 c2 c3 c4 fz s2
    obtain ⟨c0, c1, c2, c3, c4, fz⟩ := id ib3
    rw [retA_of1 k1, retB_of1 k1]
    go_wp2_with fail
    generalize hWW : w3.alloc _ = W4
    have ij := insAt_box w3 23 op (retA op A x) (retB op B x) C D
    rw [retA_of1 k1, retB_of1 k1, hWW] at ij
    have hbx : Below w3.heap.size w3 W4 := hWW ▸ below_box w3 _
    clear hWW
    have ii := ib3.mono hbx
    have q4 := below_step q3 q3.size hbx
    clear hbx ib3 q3 c0 c1 c2 c3 c4 fz
    refine (target_any op hx _ _ C D _).mono ?_
    rintro e w5 ⟨rfl, hb5⟩
    have ii5 := ii.mono hb5
    have ij5 := ij.mono hb5
    have q5 := below_step q4 q4.size hb5
    clear ii ij q4 hb5
    obtain ⟨c0, c1, c2, c3, c4, fz⟩ := id ii5
    obtain ⟨e0, e1, e2, e3, e4, ez⟩ := id ij5
    have d0 := cell_regrown c0
    have d1 := cell_regrown c1
    have d2 := cell_regrown c2
    have d3 := cell_regrown c3
    have d4 := cell_regrown c4
    have f0 := cell_regrown e0
    have f1 := cell_regrown e1
    have f2 := cell_regrown e2
    have f3 := cell_regrown e3
    have f4 := cell_regrown e4
    go_wp2
    refine wp_region_quiet_below (by kernel_rfl) (by kernel_rfl) ?_
    repeat (go_big_quiet_step ((go_at_call 19; exact Calls.regrown_of (retarget_any op hx _ _ C D _ _))))
    refine wpQuiet_nil ?_
    intro wq hw'
    obtain ⟨⟨dq, osq⟩, hw''⟩ := hw'
    have hbq := below_regrown w5 dq osq
    rw [← hw''] at hbq
    clear hw''
    go_wp2
    go_ret
    exact ⟨rfl, below_step q5 q5.size hbq⟩

  case inr.inl =>
    have g1 := tgt_of2 k1
    have g2 := retA_of2 k1
    have g3 := retB_of2 k1
    clear k2
    go_wp2_with fail
    refine (retarget_any op hx A B C D x _).mono ?_
    rintro e w3 ⟨rfl, hb3⟩
    have ib3 := ib2.mono hb3
    have q3 := below_step q2 q2.size hb3
    have s3 := ib3.lt
    clear ib2 q2 hb3 c0 c1 c2 c3 c4 fz s2
    obtain ⟨c0, c1, c2, c3, c4, fz⟩ := id ib3
    rw [retA_of2 k1, retB_of2 k1]
    go_wp2_with fail
    generalize hWW : w3.alloc _ = W4
    have ij := insAt_box w3 23 op (retA op A x) (retB op B x) C D
    rw [retA_of2 k1, retB_of2 k1, hWW] at ij
    have hbx : Below w3.heap.size w3 W4 := hWW ▸ below_box w3 _
    clear hWW
    have ii := ib3.mono hbx
    have q4 := below_step q3 q3.size hbx
    clear hbx ib3 q3 c0 c1 c2 c3 c4 fz
    refine (target_any op hx _ _ C D _).mono ?_
    rintro e w5 ⟨rfl, hb5⟩
    have ii5 := ii.mono hb5
    have ij5 := ij.mono hb5
    have q5 := below_step q4 q4.size hb5
    clear ii ij q4 hb5
    obtain ⟨c0, c1, c2, c3, c4, fz⟩ := id ii5
    obtain ⟨e0, e1, e2, e3, e4, ez⟩ := id ij5
    have d0 := cell_regrown c0
    have d1 := cell_regrown c1
    have d2 := cell_regrown c2
    have d3 := cell_regrown c3
    have d4 := cell_regrown c4
    have f0 := cell_regrown e0
    have f1 := cell_regrown e1
    have f2 := cell_regrown e2
    have f3 := cell_regrown e3
    have f4 := cell_regrown e4
    go_wp2
    refine wp_region_quiet_below (by kernel_rfl) (by kernel_rfl) ?_
    repeat (go_big_quiet_step ((go_at_call 19; exact Calls.regrown_of (retarget_any op hx _ _ C D _ _))))
    refine wpQuiet_nil ?_
    intro wq hw'
    obtain ⟨⟨dq, osq⟩, hw''⟩ := hw'
    have hbq := below_regrown w5 dq osq
    rw [← hw''] at hbq
    clear hw''
    go_wp2
    go_ret
    exact ⟨rfl, below_step q5 q5.size hbq⟩


end Go.Proofs.YtfcfmljndlmkbaaDoor

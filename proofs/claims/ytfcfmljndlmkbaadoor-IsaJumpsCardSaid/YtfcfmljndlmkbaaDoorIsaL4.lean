/-
  The walks of the laws IsaTwice and IsaJumps.
-/
import Derived.Test.YtfcfmljndlmkbaaDoorIsaLaws
namespace Go.Proofs.YtfcfmljndlmkbaaDoor
open Go.ChangeShapes Go.WideShapes Go.ChangeAt Go.RowKit Go.Sort

theorem operands_bel (op : Nat) (hx : op < 256) (w : World) (hT : Tab w) :
    Calls Tryd.prog 16 #[.int .u8 op] w fun e w' => e = .returned (.int .i64 (opsN op)) ∧ Below w.heap.size w w' :=
  (operands_any op hx w hT).mono fun _ _ ⟨he, hw⟩ => ⟨he, hw ▸ Below.refl _ _⟩
theorem isJump_bel (op : Nat) (hx : op < 256) (w : World) :
    Calls Tryd.prog 23 #[.int .u8 op] w fun e w' => e = .returned (.bool (jmpB op)) ∧ Below w.heap.size w w' :=
  (isJump_any op hx w).mono fun _ _ ⟨he, hw⟩ => ⟨he, hw ▸ Below.refl _ _⟩
theorem isLanding_bel (op : Nat) (hx : op < 256) (w : World) :
    Calls Tryd.prog 24 #[.int .u8 op] w fun e w' => e = .returned (.bool (lndB op)) ∧ Below w.heap.size w w' :=
  (isLanding_any op hx w).mono fun _ _ ⟨he, hw⟩ => ⟨he, hw ▸ Below.refl _ _⟩

theorem jl_cases (op : Nat) : (jmpB op = true ∧ lndB op = false ∧ (tgtK op != 0) = true) ∨ (jmpB op = false ∧ lndB op = true ∧ (tgtK op != 0) = true) ∨ (jmpB op = false ∧ lndB op = false) := by
  by_cases h35 : op < 35
  · rcases op_cases h35 with rfl | rfl | rfl | rfl | rfl | rfl | rfl | rfl | rfl | rfl | rfl | rfl | rfl | rfl | rfl | rfl | rfl | rfl | rfl | rfl | rfl | rfl | rfl | rfl | rfl | rfl | rfl | rfl | rfl | rfl | rfl | rfl | rfl | rfl | rfl <;> decide
  · refine .inr (.inr ⟨?_, ?_⟩) <;> simp [jmpB, lndB] <;> omega

set_option maxRecDepth 100000 in
set_option maxHeartbeats 800000 in
theorem isaTwice_walk (op : Nat) (hx : op < 256) (A B C D : Int) (w : World) (hT : Tab w) :
    Calls Tryd.prog 6 #[.agg #[.int .u8 op, .int .i64 A, .int .i64 B, .int .i64 C, .int .i64 D]] w fun e w' => e = .returned (.bool true) ∧ Below w.heap.size w w' := by
  have ib := insAt_box w 23 op A B C D
  have hTW := Lib.hid (hT.alloc (Obj.cells #[Value.int IntKind.u8 ↑op, Value.int IntKind.i64 A, Value.int IntKind.i64 B, Value.int IntKind.i64 C, Value.int IntKind.i64 D] 23))
  have hbW := below_box w (Obj.cells #[Value.int IntKind.u8 ↑op, Value.int IntKind.i64 A, Value.int IntKind.i64 B, Value.int IntKind.i64 C, Value.int IntKind.i64 D] 23)
  clear hT
  go_enter Tryd.func6, Tryd.ntmps6
  go_wp2_with fail
  generalize w.alloc _ = W at ib hTW hbW ⊢
  refine (awake21_any _ hTW.out).mono ?_
  rintro e w1 ⟨rfl, hb1⟩
  have ib1 := ib.mono hb1
  have hT1 := Lib.hid (hTW.out.mono hb1)
  have q1 := below_step hbW hbW.size hb1
  clear ib hTW hbW hb1
  obtain ⟨c0, c1, c2, c3, c4, fz⟩ := id ib1
  have s1 := ib1.lt
  have hx' := invN_256 hx
  have hv := valid_invN op A B C D
  have hi := invN_invN op
  have ht := tgt_invN op A B
  have hk := tgtK_invN op
  have ho := opsN_invN op
  go_wp2_with fail
  refine (inverse_any op hx A B C D _).mono ?_
  rintro e w2 ⟨rfl, hb2⟩
  have ib2 := ib1.mono hb2
  have q2 := below_step q1 q1.size hb2
  have hT2 := Lib.hid (hT1.out.mono hb2)
  have s2 := ib2.lt
  clear ib1 q1 hT1 hb2 c0 c1 c2 c3 c4 fz s1
  obtain ⟨c0, c1, c2, c3, c4, fz⟩ := id ib2
  go_wp2_with fail
  have ij := insAt_box w2 23 (invN op) A B C D
  have hbx := below_box w2 (Obj.cells #[Value.int IntKind.u8 ↑(invN op), Value.int IntKind.i64 A, Value.int IntKind.i64 B, Value.int IntKind.i64 C, Value.int IntKind.i64 D] 23)
  have ii := ib2.mono hbx
  have q3 := below_step q2 q2.size hbx
  have hT3 := Lib.hid (hT2.out.mono hbx)
  clear hbx ib2 q2 hT2 c0 c1 c2 c3 c4 fz
  generalize w2.alloc _ = W3 at ij ii q3 hT3 ⊢
  refine (target_any op hx A B C D _).mono ?_
  rintro e w4 ⟨rfl, hb4⟩
  have ii4 := ii.mono hb4
  have ij4 := ij.mono hb4
  have q4 := below_step q3 q3.size hb4
  have hT4 := Lib.hid (hT3.out.mono hb4)
  clear ii ij q3 hT3 hb4
  obtain ⟨c0, c1, c2, c3, c4, fz⟩ := id ii4
  obtain ⟨e0, e1, e2, e3, e4, ez⟩ := id ij4
  go_wp2_with fail
  refine (target_any (invN op) hx' A B C D _).mono ?_
  rintro e w5 ⟨rfl, hb5⟩
  have ii5 := ii4.mono hb5
  have ij5 := ij4.mono hb5
  have q5 := below_step q4 q4.size hb5
  have hT5 := Lib.hid (hT4.out.mono hb5)
  clear ii4 ij4 q4 hT4 hb5 c0 c1 c2 c3 c4 fz e0 e1 e2 e3 e4 ez
  obtain ⟨c0, c1, c2, c3, c4, fz⟩ := id ii5
  obtain ⟨e0, e1, e2, e3, e4, ez⟩ := id ij5
  have d0 := cell_regrown c0
  have d1 := cell_regrown c1
  have d2 := cell_regrown c2
  have d3 := cell_regrown c3
  have d4 := cell_regrown c4
  have f0 := cell_regrown e0
  have f1 := cell_regrown e1
  have f2 := cell_regrown e2
  have f3 := cell_regrown e3
  have f4 := cell_regrown e4
  go_wp2
  refine wp_region_quiet_below (by kernel_rfl) (by kernel_rfl) ?_
  repeat (go_big_quiet_step ((first | (go_at_call 15; exact Calls.regrown_of (inverse_any (invN op) hx' A B C D _)) | (go_at_call 12; exact Calls.regrown_of (valid_any _ (by first | exact hx | exact hx') A B C D _ (hT5.out.mono (below_regrown _ _ _)))) | (go_at_call 16; exact Calls.regrown_of (operands_bel _ (by first | exact hx | exact hx') _ (hT5.out.mono (below_regrown _ _ _)))))))
  refine wpQuiet_nil ?_
  intro wq hw'
  obtain ⟨⟨dq, osq⟩, hw''⟩ := hw'
  have hbq := below_regrown w5 dq osq
  rw [← hw''] at hbq
  clear hw''
  go_wp2
  go_ret
  exact ⟨rfl, below_step q5 q5.size hbq⟩

set_option maxRecDepth 100000 in
set_option maxHeartbeats 800000 in
theorem isaJumps_walk (op : Nat) (hx : op < 256) (A B C D : Int) (w : World) (hT : Tab w) :
    Calls Tryd.prog 10 #[.agg #[.int .u8 op, .int .i64 A, .int .i64 B, .int .i64 C, .int .i64 D]] w fun e w' => e = .returned (.bool true) ∧ Below w.heap.size w w' := by
  have ib := insAt_box w 23 op A B C D
  have hTW := Lib.hid (hT.alloc (Obj.cells #[Value.int IntKind.u8 ↑op, Value.int IntKind.i64 A, Value.int IntKind.i64 B, Value.int IntKind.i64 C, Value.int IntKind.i64 D] 23))
  have hbW := below_box w (Obj.cells #[Value.int IntKind.u8 ↑op, Value.int IntKind.i64 A, Value.int IntKind.i64 B, Value.int IntKind.i64 C, Value.int IntKind.i64 D] 23)
  clear hT
  go_enter Tryd.func10, Tryd.ntmps10
  go_wp2_with fail
  generalize w.alloc _ = W at ib hTW hbW ⊢
  refine (awake21_any _ hTW.out).mono ?_
  rintro e w1 ⟨rfl, hb1⟩
  have ib1 := ib.mono hb1
  have hT1 := Lib.hid (hTW.out.mono hb1)
  have q1 := below_step hbW hbW.size hb1
  clear ib hTW hbW hb1
  obtain ⟨c0, c1, c2, c3, c4, fz⟩ := id ib1
  have s1 := ib1.lt
  have hx' := invN_256 hx
  have hj := jmp_invN op
  have hl := lnd_invN op
  have hfin : (jmpB op = true ∧ lndB op = false ∧ (tgtK op != 0) = true) ∨ (jmpB op = false ∧ lndB op = true ∧ (tgtK op != 0) = true) ∨ (jmpB op = false ∧ lndB op = false) := by
    exact jl_cases op
  go_wp2_with fail
  refine (inverse_any op hx A B C D _).mono ?_
  rintro e w2 ⟨rfl, hb2⟩
  have ib2 := ib1.mono hb2
  have q2 := below_step q1 q1.size hb2
  have s2 := ib2.lt
  clear ib1 q1 hT1 hb2 c0 c1 c2 c3 c4 fz s1
  obtain ⟨c0, c1, c2, c3, c4, fz⟩ := id ib2
  go_wp2_with fail
  have ij := insAt_box w2 23 (invN op) A B C D
  have hbx := below_box w2 (Obj.cells #[Value.int IntKind.u8 ↑(invN op), Value.int IntKind.i64 A, Value.int IntKind.i64 B, Value.int IntKind.i64 C, Value.int IntKind.i64 D] 23)
  have ii := ib2.mono hbx
  have q3 := below_step q2 q2.size hbx
  clear hbx ib2 q2 c0 c1 c2 c3 c4 fz
  generalize w2.alloc _ = W3 at ij ii q3 ⊢
  refine (target_any op hx A B C D _).mono ?_
  rintro e w4 ⟨rfl, hb4⟩
  have ii4 := ii.mono hb4
  have ij4 := ij.mono hb4
  have q4 := below_step q3 q3.size hb4
  clear ii ij q3 hb4
  obtain ⟨c0, c1, c2, c3, c4, fz⟩ := id ii4
  obtain ⟨e0, e1, e2, e3, e4, ez⟩ := id ij4
  have d0 := cell_regrown c0
  have d1 := cell_regrown c1
  have d2 := cell_regrown c2
  have d3 := cell_regrown c3
  have d4 := cell_regrown c4
  have f0 := cell_regrown e0
  have f1 := cell_regrown e1
  have f2 := cell_regrown e2
  have f3 := cell_regrown e3
  have f4 := cell_regrown e4
  rcases hfin with ⟨k1, k2, k3⟩ | ⟨k1, k2, k3⟩ | ⟨k1, k2⟩
  all_goals
    rw [k1] at hl
    rw [k2] at hj
    go_wp2
    refine wp_region_quiet_below (by kernel_rfl) (by kernel_rfl) ?_
    repeat (go_big_quiet_step ((first | (go_at_call 23; exact Calls.regrown_of (isJump_bel op hx _)) | (go_at_call 24; exact Calls.regrown_of (isLanding_bel op hx _)))))
    refine wpQuiet_nil ?_
    intro wq hw'
    obtain ⟨⟨dq, osq⟩, hw''⟩ := hw'
    have hbq := below_regrown w4 dq osq
    rw [← hw''] at hbq
    clear hw''
    have ii5 := ii4.mono hbq
    have ij5 := ij4.mono hbq
    obtain ⟨c0', c1', c2', c3', c4', fz'⟩ := id ii5
    obtain ⟨e0', e1', e2', e3', e4', ez'⟩ := id ij5
    go_wp2_with (first | (go_at_call 23; refine (isJump_any (invN op) hx' _).mono ?_; rintro e w' ⟨rfl, rfl⟩) | (go_at_call 24; refine (isLanding_any (invN op) hx' _).mono ?_; rintro e w' ⟨rfl, rfl⟩))
    all_goals go_ret
    all_goals exact ⟨rfl, below_step q4 q4.size hbq⟩

end Go.Proofs.YtfcfmljndlmkbaaDoor

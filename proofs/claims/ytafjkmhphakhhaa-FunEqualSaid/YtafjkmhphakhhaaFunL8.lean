/-
  The walk of the law FunEqual.
-/
import Derived.Test.YtafjkmhphakhhaaFunAwake
namespace Go.Proofs.Ytafjkmhphakhhaa
open Go.ChangeShapes Go.WideShapes Go.ChangeAt Go.RowKit Go.Sort

theorem equal_u (xl : Bool) (xn : Int) (xs : List Int) (yl : Bool) (yn : Int) (ys : List Int) (A A' : Option Addr) (cap cap' : Nat) (w : World) (hL : IntsAt w A xs) (hL' : IntsAt w A' ys) (hl : xs.length ≤ 9223372036854775807) (hl' : ys.length ≤ 9223372036854775807) :
    Calls Try.prog 27 #[.agg #[.bool xl, .int .i64 xn, .slice A xs.length cap], .agg #[.bool yl, .int .i64 yn, .slice A' ys.length cap']] w fun e w' => e = .returned (.bool (eqV ⟨xl, xn, xs⟩ ⟨yl, yn, ys⟩)) ∧ Below w.heap.size w w' :=
  equal_any ⟨xl, xn, xs⟩ ⟨yl, yn, ys⟩ A A' cap cap' w hL hL' hl hl'
theorem requal_u (xl : Bool) (xn : Int) (xs : List Int) (yl : Bool) (yn : Int) (ys : List Int) (A A' : Option Addr) (cap cap' : Nat) (w : World) (hL : IntsAt w A xs) (hL' : IntsAt w A' ys) (hl : xs.length ≤ 9223372036854775807) (hl' : ys.length ≤ 9223372036854775807) :
    Calls Try.prog 28 #[.agg #[.bool xl, .int .i64 xn, .slice A xs.length cap], .agg #[.bool yl, .int .i64 yn, .slice A' ys.length cap']] w fun e w' => e = .returned (.bool (eqV ⟨xl, xn, xs⟩ ⟨yl, yn, ys⟩)) ∧ Below w.heap.size w w' :=
  requal_any ⟨xl, xn, xs⟩ ⟨yl, yn, ys⟩ A A' cap cap' w hL hL' hl hl'
theorem eqV_refl (x : Vl) : eqV x x = true := by
  unfold eqV; rw [if_pos rfl]; split <;> simp
theorem eqV_symm (x y : Vl) : eqV x y = eqV y x := by
  obtain ⟨a, b, c⟩ := x
  obtain ⟨a', b', c'⟩ := y
  unfold eqV
  cases a <;> cases a' <;> simp
  · rw [Bool.beq_comm]
  · exact eq_comm
theorem eqV_trans (x y z : Vl) (h : eqV x y = true) (h2 : eqV y z = true) : eqV x z = true := by
  obtain ⟨a, b, c⟩ := x
  obtain ⟨a', b', c'⟩ := y
  obtain ⟨a'', b'', c''⟩ := z
  unfold eqV at *
  cases a <;> cases a' <;> cases a'' <;> simp at *
  · rw [h, h2]
  · rw [h, h2]

set_option maxRecDepth 100000 in
set_option maxHeartbeats 1000000 in
theorem funEqual_walk (x y z : Vl) (A B C : Option Addr) (ca cb cc : Nat) (w : World) (hA : IntsAt w A x.l) (hB : IntsAt w B y.l) (hC : IntsAt w C z.l) (la : x.l.length ≤ 9223372036854775807) (lb : y.l.length ≤ 9223372036854775807) (lc : z.l.length ≤ 9223372036854775807) :
    Calls Try.prog 10 #[.agg #[.bool x.list, .int .i64 x.n, .slice A x.l.length ca], .agg #[.bool y.list, .int .i64 y.n, .slice B y.l.length cb], .agg #[.bool z.list, .int .i64 z.n, .slice C z.l.length cc]] w fun e w' => e = .returned (.bool true) ∧ Below w.heap.size w w' := by
  have h1 := eqV_refl x
  have h2 := eqV_symm y x
  have h3 := eqV_trans x y z
  have b1 := below_box w (Obj.cells #[.bool x.list, .int .i64 x.n, .slice A x.l.length ca] 54)
  have x1 := vlB_box w 54 x A ca hA
  generalize hW1 : w.alloc (Obj.cells #[.bool x.list, .int .i64 x.n, .slice A x.l.length ca] 54) = W1 at *
  have z1 : W1.heap.size = w.heap.size + 1 := by rw [← hW1]; simp
  have b2 := below_box W1 (Obj.cells #[.bool y.list, .int .i64 y.n, .slice B y.l.length cb] 54)
  have y2 := vlB_box W1 54 y B cb (hB.mono b1)
  generalize hW2 : W1.alloc (Obj.cells #[.bool y.list, .int .i64 y.n, .slice B y.l.length cb] 54) = W2 at *
  have z2 : W2.heap.size = w.heap.size + 1 + 1 := by rw [← hW2]; simp [z1]
  have b3 := below_box W2 (Obj.cells #[.bool z.list, .int .i64 z.n, .slice C z.l.length cc] 54)
  have z3 := vlB_box W2 54 z C cc ((hC.mono b1).mono b2)
  have x3 := (x1.mono b2).mono b3
  have y3 := y2.mono b3
  have q3 := below_step (below_step b1 b1.size b2) (by rw [z2]; omega) b3
  rw [z1] at y3
  rw [z2] at z3
  have X3 := Lib.hid x3
  have Y3 := Lib.hid y3
  have Z3 := Lib.hid z3
  have Q3 := Lib.hid q3
  subst hW2
  subst hW1
  clear x3 y3 z3 q3 b1 b2 b3 x1 y2 hA hB hC z1 z2
  go_enter Try.func10, Try.ntmps10
  go_wp2_with fail
  generalize World.alloc _ _ = W3 at X3 Y3 Z3 Q3 ⊢
  refine (awake_any _).mono ?_
  rintro e w4 ⟨rfl, hb4⟩
  have x4 := X3.out.mono hb4
  have y4 := Y3.out.mono hb4
  have z4 := Z3.out.mono hb4
  have q4 := below_step Q3.out Q3.out.size hb4
  clear X3 Y3 Z3 Q3 hb4
  obtain ⟨xl, xn, xs⟩ := x
  obtain ⟨yl, yn, ys⟩ := y
  obtain ⟨zl, zn, zs⟩ := z
  obtain ⟨d0, d1, d2, dA⟩ := x4
  obtain ⟨e0, e1, e2, dB⟩ := y4
  obtain ⟨f0, f1, f2, dC⟩ := z4
  simp only at *
  have DA := Lib.hid dA
  have DB := Lib.hid dB
  have DC := Lib.hid dC
  clear dA dB dC
  have g0 := cell_regrown d0
  have g1 := cell_regrown d1
  have g2 := cell_regrown d2
  have g3 := cell_regrown e0
  have g4 := cell_regrown e1
  have g5 := cell_regrown e2
  have g6 := cell_regrown f0
  have g7 := cell_regrown f1
  have g8 := cell_regrown f2
  go_wp2_with fail
  generalize hp : eqV ⟨xl, xn, xs⟩ ⟨yl, yn, ys⟩ = p at *
  generalize hq : eqV ⟨yl, yn, ys⟩ ⟨zl, zn, zs⟩ = q at *
  generalize hr : eqV ⟨xl, xn, xs⟩ ⟨zl, zn, zs⟩ = r at *
  have HP := hp
  cases p <;> cases q <;> cases r
  all_goals first | (exfalso; simp at h3; done) | skip
  all_goals clear h3
  all_goals
    refine wp_region_quiet_below (by kernel_rfl) (by kernel_rfl) ?_
    repeat (first | go_big_quiet_step ((go_at_call 27; exact Calls.regrown_of (equal_u _ _ _ _ _ _ _ _ _ _ _ (by first | exact DA.out.mono (below_regrown _ _ _) | exact DB.out.mono (below_regrown _ _ _) | exact DC.out.mono (below_regrown _ _ _)) (by first | exact DA.out.mono (below_regrown _ _ _) | exact DB.out.mono (below_regrown _ _ _) | exact DC.out.mono (below_regrown _ _ _)) (by assumption) (by assumption)))) | quiet_step ((go_at_call 27; exact Calls.regrown_of (equal_u _ _ _ _ _ _ _ _ _ _ _ (by first | exact DA.out.mono (below_regrown _ _ _) | exact DB.out.mono (below_regrown _ _ _) | exact DC.out.mono (below_regrown _ _ _)) (by first | exact DA.out.mono (below_regrown _ _ _) | exact DB.out.mono (below_regrown _ _ _) | exact DC.out.mono (below_regrown _ _ _)) (by assumption) (by assumption)))))
  all_goals
    refine wpQuiet_nil ?_
    intro w5 hw'
    obtain ⟨⟨dq, osq⟩, hw''⟩ := hw'
    have hb5 := below_regrown w4 dq osq
    rw [← hw''] at hb5
    clear hw''
    go_wp2_with fail
    have k0 := cell_regrown (below_cell hb5 d0)
    have k1 := cell_regrown (below_cell hb5 d1)
    have k2 := cell_regrown (below_cell hb5 d2)
    have k3 := cell_regrown (below_cell hb5 e0)
    have k4 := cell_regrown (below_cell hb5 e1)
    have k5 := cell_regrown (below_cell hb5 e2)
    clear g0 g1 g2 g3 g4 g5 g6 g7 g8
    refine wp_region_quiet_below (by kernel_rfl) (by kernel_rfl) ?_
    repeat (first | go_big_quiet_step ((first | (go_at_call 27; exact Calls.regrown_of (equal_u _ _ _ _ _ _ _ _ _ _ _ (by first | exact DA.out.mono (below_step hb5 hb5.size (below_regrown _ _ _)) | exact DB.out.mono (below_step hb5 hb5.size (below_regrown _ _ _))) (by first | exact DA.out.mono (below_step hb5 hb5.size (below_regrown _ _ _)) | exact DB.out.mono (below_step hb5 hb5.size (below_regrown _ _ _))) (by assumption) (by assumption))) | (go_at_call 28; exact Calls.regrown_of (requal_u _ _ _ _ _ _ _ _ _ _ _ (by first | exact DA.out.mono (below_step hb5 hb5.size (below_regrown _ _ _)) | exact DB.out.mono (below_step hb5 hb5.size (below_regrown _ _ _))) (by first | exact DA.out.mono (below_step hb5 hb5.size (below_regrown _ _ _)) | exact DB.out.mono (below_step hb5 hb5.size (below_regrown _ _ _))) (by assumption) (by assumption))))) | quiet_step ((first | (go_at_call 27; exact Calls.regrown_of (equal_u _ _ _ _ _ _ _ _ _ _ _ (by first | exact DA.out.mono (below_step hb5 hb5.size (below_regrown _ _ _)) | exact DB.out.mono (below_step hb5 hb5.size (below_regrown _ _ _))) (by first | exact DA.out.mono (below_step hb5 hb5.size (below_regrown _ _ _)) | exact DB.out.mono (below_step hb5 hb5.size (below_regrown _ _ _))) (by assumption) (by assumption))) | (go_at_call 28; exact Calls.regrown_of (requal_u _ _ _ _ _ _ _ _ _ _ _ (by first | exact DA.out.mono (below_step hb5 hb5.size (below_regrown _ _ _)) | exact DB.out.mono (below_step hb5 hb5.size (below_regrown _ _ _))) (by first | exact DA.out.mono (below_step hb5 hb5.size (below_regrown _ _ _)) | exact DB.out.mono (below_step hb5 hb5.size (below_regrown _ _ _))) (by assumption) (by assumption))))))
  all_goals
    refine wpQuiet_nil ?_
    intro w6 hw'
    obtain ⟨⟨dq, osq⟩, hw''⟩ := hw'
    have hb6 := below_regrown w5 dq osq
    rw [← hw''] at hb6
    clear hw''
    go_wp2_with fail
    go_ret
    exact ⟨ret_bool (by simp), below_step (below_step q4 q4.size hb5) (by have := q4.size; have := hb5.size; omega) hb6⟩

end Go.Proofs.Ytafjkmhphakhhaa

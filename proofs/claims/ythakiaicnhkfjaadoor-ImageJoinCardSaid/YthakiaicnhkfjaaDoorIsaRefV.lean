/-
  The contract of the reference's Valid.
-/
import Derived.Test.YthakiaicnhkfjaaDoorIsaRef
namespace Go.Proofs.YthakiaicnhkfjaaDoor
open Go.ChangeShapes Go.WideShapes Go.ChangeAt Go.RowKit Go.Sort

theorem fits_bel (c : Nat) (x : Int) (w : World) :
    Calls Tryd.prog 47 #[.int .u8 c, .int .i64 x] w fun e w' => e = .returned (.bool (fitsB c x)) ∧ Below w.heap.size w w' :=
  (fits_any c x w).mono fun _ _ ⟨he, hw⟩ => ⟨he, hw ▸ Below.refl _ _⟩

/-- An instruction's five cells in a block. -/
structure InsAt (w : World) (b : Nat) (op : Nat) (A B C D : Int) : Prop where
  c0 : w.cell? ⟨b, 0, none⟩ = some (.int .u8 op)
  c1 : w.cell? ⟨b, 1, none⟩ = some (.int .i64 A)
  c2 : w.cell? ⟨b, 2, none⟩ = some (.int .i64 B)
  c3 : w.cell? ⟨b, 3, none⟩ = some (.int .i64 C)
  c4 : w.cell? ⟨b, 4, none⟩ = some (.int .i64 D)
  fz : ∀ o, w.frozen? ⟨b, o, none⟩ = false
theorem InsAt.mono {w w' : World} {b op : Nat} {A B C D : Int} (h : InsAt w b op A B C D) (hb : Below w.heap.size w w') : InsAt w' b op A B C D := by
  have l : b < w.heap.size := block_lt_of_cell h.c0
  have e : ∀ o, w'.cell? ⟨b, o, none⟩ = w.cell? ⟨b, o, none⟩ := fun o => hb.cell (p := ⟨b, o, none⟩) l
  exact ⟨by rw [e]; exact h.c0, by rw [e]; exact h.c1, by rw [e]; exact h.c2, by rw [e]; exact h.c3, by rw [e]; exact h.c4, fun o => by rw [hb.frozen (p := ⟨b, o, none⟩) l]; exact h.fz o⟩

theorem InsAt.lt {w : World} {b op : Nat} {A B C D : Int} (h : InsAt w b op A B C D) : b < w.heap.size := block_lt_of_cell h.c0
theorem InsAt.setOp {w : World} {b op : Nat} {A B C D : Int} (h : InsAt w b op A B C D) (op' : Nat) : InsAt (w.setCell ⟨b, 0, none⟩ (.int .u8 op')) b op' A B C D := by
  obtain ⟨c0, c1, c2, c3, c4, fz⟩ := h
  constructor <;> simp [go_sem, *]
theorem InsAt.setOther {w : World} {b op : Nat} {A B C D : Int} (h : InsAt w b op A B C D) (b' o : Nat) (v : Value) (hb : b ≠ b') : InsAt (w.setCell ⟨b', o, none⟩ v) b op A B C D := by
  obtain ⟨c0, c1, c2, c3, c4, fz⟩ := h
  constructor <;> simp [go_sem, c0, c1, c2, c3, c4, fz]

theorem below_step {B : Nat} {w w1 w2 : World} (h : Below B w w1) (hB : B ≤ w1.heap.size) (h2 : Below w1.heap.size w1 w2) : Below B w w2 := h.trans (h2.mono hB)

theorem okL_of {s : List UInt8} {A B C D : Int} (h : ∀ j, j < 4 → ok1 s j (opd A B C D j) = true) : okL s A B C D = true := by
  have a0 := h 0 (by omega); have a1 := h 1 (by omega); have a2 := h 2 (by omega); have a3 := h 3 (by omega)
  simp only [opd, List.getD_cons_zero, List.getD_cons_succ] at a0 a1 a2 a3
  simp [okL, a0, a1, a2, a3]
theorem okL_not {s : List UInt8} {A B C D : Int} (k : Nat) (hk : k < 4) (h : ok1 s k (opd A B C D k) = false) : okL s A B C D = false := by
  have : k = 0 ∨ k = 1 ∨ k = 2 ∨ k = 3 := by omega
  rcases this with rfl | rfl | rfl | rfl <;> simp only [opd, List.getD_cons_zero, List.getD_cons_succ] at h <;> simp [okL, h]
theorem ok1_in {s : List UInt8} {k : Nat} (h : k < s.length) (x : Int) : ok1 s k x = fitsB (s[k].toNat) x := by simp [ok1, h]
theorem ok1_out {s : List UInt8} {k : Nat} (h : ¬ k < s.length) (x : Int) : ok1 s k x = (x == 0) := by simp [ok1, h]

set_option maxRecDepth 100000 in
set_option maxHeartbeats 1000000 in
theorem refValid_lo (op : Nat) (hx : op < 256) (h35 : op < 35) (A B C D : Int) (w : World) :
    Calls Tryd.prog 42 #[.agg #[.int .u8 op, .int .i64 A, .int .i64 B, .int .i64 C, .int .i64 D]] w fun e w' => e = .returned (.bool (refV op A B C D)) ∧ Below w.heap.size w w' := by
  have hV := Lib.hid (show refV op A B C D = (okL (shapeL op) A B C D && distB op A B C) by simp [refV, h35])
  have hc := fun w => shape_any op hx w
  rw [show decide (op < 35) = true by simp [h35]] at hc
  have hl : (shapeL op).length ≤ 4 := by
    rcases shape_class h35 with ⟨_, h⟩ | ⟨_, h⟩ | ⟨_, h⟩ | ⟨_, h⟩ | ⟨_, h⟩ | ⟨_, h⟩ | ⟨_, h⟩ | ⟨_, h⟩ | ⟨_, h⟩ | ⟨_, h⟩ | ⟨_, h⟩ <;> rw [h] <;> decide
  generalize shapeL op = s at hV hc hl
  have HC := Lib.hid hc
  clear hc h35
  go_enter Tryd.func42, Tryd.ntmps42
  go_wp2_with fail
  refine (HC.out _).mono ?_
  rintro e w' ⟨rfl, rfl⟩
  clear HC
  go_wp2
  have ib : InsAt (w.alloc (Obj.cells #[Value.int IntKind.u8 ↑op, Value.int IntKind.i64 A, Value.int IntKind.i64 B, Value.int IntKind.i64 C, Value.int IntKind.i64 D] 38)) w.heap.size op A B C D := by
    constructor <;> simp [go_sem]
  go_loopw [5] (fun i wr => ∃ k : Nat, k ≤ 4 ∧ i = .int .i64 k ∧ Hid (∀ j, j < k → ok1 s j (opd A B C D j) = true) ∧ Below w.heap.size w wr ∧ InsAt wr w.heap.size op A B C D) (fun i _ => 4 - (intOf i).toNat)
  case atStart => exact ⟨0, by omega, rfl, fun j hj => by omega, (Below.refl _ _).alloc (Nat.le_refl _) _, ib⟩
  case round =>
    obtain ⟨k, hk, rfl, hz, hb, ⟨c0, c1, c2, c3, c4, fz⟩⟩ := hrel
    clear ib
    have hsz : w.heap.size < wr.heap.size := block_lt_of_cell c0
    by_cases h4 : k = 4
    · subst h4
      have hv := Lib.hid (show refV op A B C D = distB op A B C by rw [hV.out, okL_of hz.out]; rfl)
      clear hz hV
      go_wp2
      all_goals go_ret
      all_goals refine ⟨ret_bool ?_, hb⟩
      all_goals rw [hv.out]
      all_goals simp only [beq_iff_eq, beq_eq_false_iff_ne, ne_eq] at *
      all_goals norm_cast at *
      all_goals simp [distB, *]
    · have k4 : k < 4 := by omega
      have d0 := cell_regrown c0
      have d1 := cell_regrown c1
      have d2 := cell_regrown c2
      have d3 := cell_regrown c3
      have d4 := cell_regrown c4
      by_cases hin : k < s.length
      · have hz' := Lib.hid (ok1_in hin (opd A B C D k))
        have g1 : (0 : Int) ≤ k := by omega
        have g2 : (k : Int) < s.length := by omega
        have g3 : decide ((k : Int) < (s.length : Int)) = true := by simp; omega
        go_wp2
        refine wp_region_quiet_below (by kernel_rfl) (by kernel_rfl) ?_
        repeat (first | go_big_quiet_step ((first | (go_at_call 48; exact Calls.regrown_of (get_any op A B C D k k4 _)) | (go_at_call 47; exact Calls.regrown_of (fits_bel _ _ _)))) | quiet_step ((first | (go_at_call 48; exact Calls.regrown_of (get_any op A B C D k k4 _)) | (go_at_call 47; exact Calls.regrown_of (fits_bel _ _ _)))))
        refine wpQuiet_nil ?_
        intro wq hw'
        obtain ⟨⟨dq, osq⟩, hw''⟩ := hw'
        have hbq := below_regrown wr dq osq
        rw [← hw''] at hbq
        clear hw''
        have ia := InsAt.mono ⟨c0, c1, c2, c3, c4, fz⟩ hbq
        have hbw := below_step hb (Nat.le_of_lt hsz) hbq
        clear d0 d1 d2 d3 d4 c0 c1 c2 c3 c4
        go_wp2
        · have hf : (!fitsB (s[k].toNat) (opd A B C D k)) = true := by assumption
          go_ret
          exact ⟨ret_bool (by rw [hV.out, okL_not k k4 (by rw [hz'.out]; simpa using hf)]; rfl), hbw⟩
        · have hf : (!fitsB (s[k].toNat) (opd A B C D k)) = false := by assumption
          exact ⟨⟨k + 1, by omega, by go_num, fun j hj => by
            by_cases e : j = k
            · subst e; rw [hz'.out]; simpa using hf
            · exact hz.out j (by omega), hbw, ia⟩, by simp [intOf]; omega⟩
      · have hz' := Lib.hid (ok1_out hin (opd A B C D k))
        have g2 : (s.length : Int) ≤ k := by omega
        go_wp2
        refine wp_region_quiet_below (by kernel_rfl) (by kernel_rfl) ?_
        repeat (first | go_big_quiet_step (fail) | quiet_step (fail))
        refine wpQuiet_nil ?_
        intro wq hw'
        obtain ⟨⟨dq, osq⟩, hw''⟩ := hw'
        have hbq := below_regrown wr dq osq
        rw [← hw''] at hbq
        clear hw''
        have ia := InsAt.mono ⟨c0, c1, c2, c3, c4, fz⟩ hbq
        have hbw := below_step hb (Nat.le_of_lt hsz) hbq
        obtain ⟨e0, e1, e2, e3, e4, fz⟩ := ia
        have hsq : w.heap.size < wq.heap.size := block_lt_of_cell e0
        clear d0 d1 d2 d3 d4 c0 c1 c2 c3 c4
        go_wp2_with (go_at_call 48; refine (get_any op A B C D k k4 _).mono ?_; rintro e w1 ⟨rfl, hb1⟩)
        · have hf : (opd A B C D k != 0) = true := by assumption
          go_ret
          exact ⟨ret_bool (by rw [hV.out, okL_not k k4 (by rw [hz'.out]; simpa using hf)]; rfl), below_step hbw (Nat.le_of_lt hsq) hb1⟩
        · have hf : (opd A B C D k != 0) = false := by assumption
          exact ⟨⟨k + 1, by omega, by go_num, fun j hj => by
            by_cases e : j = k
            · subst e; rw [hz'.out]; simpa using hf
            · exact hz.out j (by omega), below_step hbw (Nat.le_of_lt hsq) hb1, InsAt.mono ⟨e0, e1, e2, e3, e4, fz⟩ hb1⟩, by simp [intOf]; omega⟩

theorem refValid_any (op : Nat) (hx : op < 256) (A B C D : Int) (w : World) :
    Calls Tryd.prog 42 #[.agg #[.int .u8 op, .int .i64 A, .int .i64 B, .int .i64 C, .int .i64 D]] w fun e w' => e = .returned (.bool (refV op A B C D)) ∧ Below w.heap.size w w' := by
  by_cases h35 : op < 35
  · exact refValid_lo op hx h35 A B C D w
  · have hV := Lib.hid (show refV op A B C D = false by simp [refV, h35])
    have hc := fun w => shape_any op hx w
    rw [show decide (op < 35) = false by simp [h35]] at hc
    have HC := Lib.hid hc
    clear hc h35
    go_enter Tryd.func42, Tryd.ntmps42
    go_wp2_with fail
    refine (HC.out _).mono ?_
    rintro e w' ⟨rfl, rfl⟩
    clear HC
    go_wp2
    go_ret
    exact ⟨ret_bool hV.out.symm, (Below.refl _ _).alloc (Nat.le_refl _) _⟩

end Go.Proofs.YthakiaicnhkfjaaDoor

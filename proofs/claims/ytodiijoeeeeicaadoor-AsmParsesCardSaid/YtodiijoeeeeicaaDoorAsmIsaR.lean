/-
  Contracts of the reference of layer 21, over this seat's translation.
-/
import Derived.Test.YtodiijoeeeeicaaDoorAsmIsa
import Derived.Lib.Hide
import Derived.Lib.QuietBelow
namespace Go.Proofs.YtodiijoeeeeicaaDoor
open Go.ChangeShapes Go.WideShapes Go.ChangeAt Go.RowKit Go.Sort


/-- One letter for each operand of an opcode. -/
def shapeL (op : Nat) : List UInt8 :=
  ([[], [114, 114], [114, 114], [114, 114], [114, 110], [114, 110], [114, 110], [114, 114], [114], [114, 114, 114, 111], [114, 107], [114, 114, 107, 107], [114, 107], [114, 107], [114, 107], [114, 107], [107, 107], [114], [114], [114], [114], [114, 101], [116], [114, 116], [114, 116], [116], [114, 116], [114, 116], [107, 107], [107, 107], [116], [116], [116], [116], []] : List (List UInt8)).getD op []
theorem shapeL_hi {op : Nat} (h : ¬ op < 35) : shapeL op = [] := by
  unfold shapeL; rw [List.getD_eq_getElem?_getD, List.getElem?_eq_none (by simp; omega)]; rfl
theorem ret_sb {s t : List UInt8} {a b : Bool} (h : s = t) (h2 : a = b) : Ending.returned (.tuple #[.string ⟨s.toArray⟩, .bool a]) = .returned (.tuple #[.string ⟨t.toArray⟩, .bool b]) := by rw [h, h2]
theorem shape_cases {op : Nat} {p : Nat → Prop} (hi : ¬ op < 35 → p op) (lo : ∀ k, k < 35 → op = k → p k) : p op := by
  by_cases h : op < 35
  · exact lo op h rfl
  · exact hi h
set_option maxRecDepth 100000 in
theorem shape_any (op : Nat) (_hx : op < 256) (w : World) :
    Calls Tryd.prog 68 #[.int .u8 op] w fun e w' => e = .returned (.tuple #[.string ⟨(shapeL op).toArray⟩, .bool (decide (op < 35))]) ∧ w = w' := by
  go_enter Tryd.func68, Tryd.ntmps68
  go_wp2
  all_goals go_ret2
  all_goals refine ⟨?_, rfl⟩
  all_goals simp only [beq_iff_eq, beq_eq_false_iff_ne, ne_eq] at *
  all_goals norm_cast at *
  all_goals first
    | (subst_vars; rfl)
    | (have hh : ¬ op < 35 := by omega
       rw [shapeL_hi hh]; simp [hh])
theorem get_any (op : Nat) (A B C D : Int) (k : Nat) (hk : k < 4) (w : World) :
    Calls Tryd.prog 70 #[.agg #[.int .u8 op, .int .i64 A, .int .i64 B, .int .i64 C, .int .i64 D], .int .i64 k] w fun e w' => e = .returned (.int .i64 (opd A B C D k)) ∧ Below w.heap.size w w' := by
  have : k = 0 ∨ k = 1 ∨ k = 2 ∨ k = 3 := by omega
  clear hk
  rcases this with rfl | rfl | rfl | rfl
  all_goals
    go_enter Tryd.func70, Tryd.ntmps70
    go_wp2
    go_ret
    exact ⟨rfl, (Below.refl _ _).alloc (Nat.le_refl _) _⟩
def fitsB (c : Nat) (x : Int) : Bool :=
  if c = 114 then regB x else if c = 107 then numB x else if c = 116 then idxB x else if c = 101 then decide (1 ≤ x) && decide (x ≤ 23) else if c = 111 then oprB x else true
theorem fits_any (c : Nat) (x : Int) (w : World) :
    Calls Tryd.prog 69 #[.int .u8 c, .int .i64 x] w fun e w' => e = .returned (.bool (fitsB c x)) ∧ w = w' := by
  by_cases a114 : c = 114
  · subst a114
    go_enter Tryd.func69, Tryd.ntmps69
    go_wp2
    all_goals go_ret
    all_goals exact ⟨ret_bool (by simp [fitsB, regB] <;> omega), rfl⟩
  have b114 : ((c : Int) == 114) = false := beq_eq_false_iff_ne.2 (by omega)
  by_cases a107 : c = 107
  · subst a107
    clear b114
    go_enter Tryd.func69, Tryd.ntmps69
    go_wp2
    all_goals go_ret
    all_goals exact ⟨ret_bool (by simp [fitsB, numB] <;> omega), rfl⟩
  have b107 : ((c : Int) == 107) = false := beq_eq_false_iff_ne.2 (by omega)
  by_cases a116 : c = 116
  · subst a116
    clear b114
    clear b107
    go_enter Tryd.func69, Tryd.ntmps69
    go_wp2
    all_goals go_ret
    all_goals exact ⟨ret_bool (by simp [fitsB, idxB] <;> omega), rfl⟩
  have b116 : ((c : Int) == 116) = false := beq_eq_false_iff_ne.2 (by omega)
  by_cases a101 : c = 101
  · subst a101
    clear b114
    clear b107
    clear b116
    go_enter Tryd.func69, Tryd.ntmps69
    go_wp2
    all_goals go_ret
    all_goals exact ⟨ret_bool (by simp [fitsB] <;> omega), rfl⟩
  have b101 : ((c : Int) == 101) = false := beq_eq_false_iff_ne.2 (by omega)
  by_cases a111 : c = 111
  · subst a111
    clear b114
    clear b107
    clear b116
    clear b101
    go_enter Tryd.func69, Tryd.ntmps69
    go_wp2
    all_goals go_ret
    all_goals exact ⟨ret_bool (by simp [fitsB, oprB] <;> omega), rfl⟩
  have b111 : ((c : Int) == 111) = false := beq_eq_false_iff_ne.2 (by omega)
  have hf := Lib.hid (show fitsB c x = true by simp [fitsB, a114, a107, a116, a101, a111])
  clear a114 a107 a116 a101 a111
  go_enter Tryd.func69, Tryd.ntmps69
  go_wp2
  go_ret
  exact ⟨ret_bool hf.out.symm, rfl⟩
theorem shape_class {op : Nat} (h : op < 35) : ((op = 0 ∨ op = 34) ∧ shapeL op = [])
    ∨ ((op = 1 ∨ op = 2 ∨ op = 3 ∨ op = 7) ∧ shapeL op = [114, 114])
    ∨ ((op = 4 ∨ op = 5 ∨ op = 6) ∧ shapeL op = [114, 110])
    ∨ ((op = 8 ∨ op = 17 ∨ op = 18 ∨ op = 19 ∨ op = 20) ∧ shapeL op = [114])
    ∨ ((op = 9) ∧ shapeL op = [114, 114, 114, 111])
    ∨ ((op = 10 ∨ op = 12 ∨ op = 13 ∨ op = 14 ∨ op = 15) ∧ shapeL op = [114, 107])
    ∨ ((op = 11) ∧ shapeL op = [114, 114, 107, 107])
    ∨ ((op = 16 ∨ op = 28 ∨ op = 29) ∧ shapeL op = [107, 107])
    ∨ ((op = 21) ∧ shapeL op = [114, 101])
    ∨ ((op = 22 ∨ op = 25 ∨ op = 30 ∨ op = 31 ∨ op = 32 ∨ op = 33) ∧ shapeL op = [116])
    ∨ ((op = 23 ∨ op = 24 ∨ op = 26 ∨ op = 27) ∧ shapeL op = [114, 116]) := by
  have hc : op = 0 ∨ op = 1 ∨ op = 2 ∨ op = 3 ∨ op = 4 ∨ op = 5 ∨ op = 6 ∨ op = 7 ∨ op = 8 ∨ op = 9 ∨ op = 10 ∨ op = 11 ∨ op = 12 ∨ op = 13 ∨ op = 14 ∨ op = 15 ∨ op = 16 ∨ op = 17 ∨ op = 18 ∨ op = 19 ∨ op = 20 ∨ op = 21 ∨ op = 22 ∨ op = 23 ∨ op = 24 ∨ op = 25 ∨ op = 26 ∨ op = 27 ∨ op = 28 ∨ op = 29 ∨ op = 30 ∨ op = 31 ∨ op = 32 ∨ op = 33 ∨ op = 34 := by omega
  rcases hc with rfl | rfl | rfl | rfl | rfl | rfl | rfl | rfl | rfl | rfl | rfl | rfl | rfl | rfl | rfl | rfl | rfl | rfl | rfl | rfl | rfl | rfl | rfl | rfl | rfl | rfl | rfl | rfl | rfl | rfl | rfl | rfl | rfl | rfl | rfl <;> simp [shapeL]
def ok1 (s : List UInt8) (k : Nat) (x : Int) : Bool := match s[k]? with | some c => fitsB c.toNat x | none => x == 0
def okQ (s : List UInt8) (A B C D : Int) : Bool := ok1 s 0 A && ok1 s 1 B && ok1 s 2 C && ok1 s 3 D
def distB (op : Nat) (A B C : Int) : Bool :=
  if op = 1 ∨ op = 2 ∨ op = 3 ∨ op = 11 then A != B else if op = 9 then A != B && A != C else true
/-- The reference's Valid. -/
def refV (op : Nat) (A B C D : Int) : Bool := decide (op < 35) && okQ (shapeL op) A B C D && distB op A B C

theorem fits_bel (c : Nat) (x : Int) (w : World) :
    Calls Tryd.prog 69 #[.int .u8 c, .int .i64 x] w fun e w' => e = .returned (.bool (fitsB c x)) ∧ Below w.heap.size w w' :=
  (fits_any c x w).mono fun _ _ ⟨he, hw⟩ => ⟨he, hw ▸ Below.refl _ _⟩
/-- An instruction's five cells in a block. -/
structure InsAt (w : World) (b : Nat) (op : Nat) (A B C D : Int) : Prop where
  c0 : w.cell? ⟨b, 0, none⟩ = some (.int .u8 op)
  c1 : w.cell? ⟨b, 1, none⟩ = some (.int .i64 A)
  c2 : w.cell? ⟨b, 2, none⟩ = some (.int .i64 B)
  c3 : w.cell? ⟨b, 3, none⟩ = some (.int .i64 C)
  c4 : w.cell? ⟨b, 4, none⟩ = some (.int .i64 D)
  fz : ∀ o, w.frozen? ⟨b, o, none⟩ = false
theorem InsAt.mono {w w' : World} {b op : Nat} {A B C D : Int} (h : InsAt w b op A B C D) (hb : Below w.heap.size w w') : InsAt w' b op A B C D := by
  have l : b < w.heap.size := block_lt_of_cell h.c0
  have e : ∀ o, w'.cell? ⟨b, o, none⟩ = w.cell? ⟨b, o, none⟩ := fun o => hb.cell (p := ⟨b, o, none⟩) l
  exact ⟨by rw [e]; exact h.c0, by rw [e]; exact h.c1, by rw [e]; exact h.c2, by rw [e]; exact h.c3, by rw [e]; exact h.c4, fun o => by rw [hb.frozen (p := ⟨b, o, none⟩) l]; exact h.fz o⟩
theorem InsAt.lt {w : World} {b op : Nat} {A B C D : Int} (h : InsAt w b op A B C D) : b < w.heap.size := block_lt_of_cell h.c0
theorem InsAt.setOp {w : World} {b op : Nat} {A B C D : Int} (h : InsAt w b op A B C D) (op' : Nat) : InsAt (w.setCell ⟨b, 0, none⟩ (.int .u8 op')) b op' A B C D := by
  obtain ⟨c0, c1, c2, c3, c4, fz⟩ := h
  constructor <;> simp [go_sem, *]
theorem InsAt.setOther {w : World} {b op : Nat} {A B C D : Int} (h : InsAt w b op A B C D) (b' o : Nat) (v : Value) (hb : b ≠ b') : InsAt (w.setCell ⟨b', o, none⟩ v) b op A B C D := by
  obtain ⟨c0, c1, c2, c3, c4, fz⟩ := h
  constructor <;> simp [go_sem, c0, c1, c2, c3, c4, fz]
theorem okQ_of {s : List UInt8} {A B C D : Int} (h : ∀ j, j < 4 → ok1 s j (opd A B C D j) = true) : okQ s A B C D = true := by
  have a0 := h 0 (by omega); have a1 := h 1 (by omega); have a2 := h 2 (by omega); have a3 := h 3 (by omega)
  simp only [opd, List.getD_cons_zero, List.getD_cons_succ] at a0 a1 a2 a3
  simp [okQ, a0, a1, a2, a3]
theorem okQ_not {s : List UInt8} {A B C D : Int} (k : Nat) (hk : k < 4) (h : ok1 s k (opd A B C D k) = false) : okQ s A B C D = false := by
  have : k = 0 ∨ k = 1 ∨ k = 2 ∨ k = 3 := by omega
  rcases this with rfl | rfl | rfl | rfl <;> simp only [opd, List.getD_cons_zero, List.getD_cons_succ] at h <;> simp [okQ, h]
theorem ok1_in {s : List UInt8} {k : Nat} (h : k < s.length) (x : Int) : ok1 s k x = fitsB (s[k].toNat) x := by simp [ok1, h]
theorem ok1_out {s : List UInt8} {k : Nat} (h : ¬ k < s.length) (x : Int) : ok1 s k x = (x == 0) := by simp [ok1, h]
set_option maxRecDepth 100000 in
set_option maxHeartbeats 1000000 in
theorem refValid_lo (op : Nat) (hx : op < 256) (h35 : op < 35) (A B C D : Int) (w : World) :
    Calls Tryd.prog 54 #[.agg #[.int .u8 op, .int .i64 A, .int .i64 B, .int .i64 C, .int .i64 D]] w fun e w' => e = .returned (.bool (refV op A B C D)) ∧ Below w.heap.size w w' := by
  have hV := Lib.hid (show refV op A B C D = (okQ (shapeL op) A B C D && distB op A B C) by simp [refV, h35])
  have hc := fun w => shape_any op hx w
  rw [show decide (op < 35) = true by simp [h35]] at hc
  have hl : (shapeL op).length ≤ 4 := by
    rcases shape_class h35 with ⟨_, h⟩ | ⟨_, h⟩ | ⟨_, h⟩ | ⟨_, h⟩ | ⟨_, h⟩ | ⟨_, h⟩ | ⟨_, h⟩ | ⟨_, h⟩ | ⟨_, h⟩ | ⟨_, h⟩ | ⟨_, h⟩ <;> rw [h] <;> decide
  generalize shapeL op = s at hV hc hl
  have HC := Lib.hid hc
  clear hc h35
  go_enter Tryd.func54, Tryd.ntmps54
  go_wp2_with fail
  refine (HC.out _).mono ?_
  rintro e w' ⟨rfl, rfl⟩
  clear HC
  go_wp2
  have ib : InsAt (w.alloc (Obj.cells #[Value.int IntKind.u8 ↑op, Value.int IntKind.i64 A, Value.int IntKind.i64 B, Value.int IntKind.i64 C, Value.int IntKind.i64 D] 43)) w.heap.size op A B C D := by
    constructor <;> simp [go_sem]
  go_loopw [5] (fun i wr => ∃ k : Nat, k ≤ 4 ∧ i = .int .i64 k ∧ Hid (∀ j, j < k → ok1 s j (opd A B C D j) = true) ∧ Below w.heap.size w wr ∧ InsAt wr w.heap.size op A B C D) (fun i _ => 4 - (intOf i).toNat)
  case atStart => exact ⟨0, by omega, rfl, fun j hj => by omega, (Below.refl _ _).alloc (Nat.le_refl _) _, ib⟩
  case round =>
    obtain ⟨k, hk, rfl, hz, hb, ⟨c0, c1, c2, c3, c4, fz⟩⟩ := hrel
    clear ib
    have hsz : w.heap.size < wr.heap.size := block_lt_of_cell c0
    by_cases h4 : k = 4
    · subst h4
      have hv := Lib.hid (show refV op A B C D = distB op A B C by rw [hV.out, okQ_of hz.out]; rfl)
      clear hz hV
      go_wp2
      all_goals go_ret
      all_goals refine ⟨ret_bool ?_, hb⟩
      all_goals rw [hv.out]
      all_goals simp only [beq_iff_eq, beq_eq_false_iff_ne, ne_eq] at *
      all_goals norm_cast at *
      all_goals simp [distB, *]
    · have k4 : k < 4 := by omega
      have d0 := cell_regrown c0
      have d1 := cell_regrown c1
      have d2 := cell_regrown c2
      have d3 := cell_regrown c3
      have d4 := cell_regrown c4
      by_cases hin : k < s.length
      · have hz' := Lib.hid (ok1_in hin (opd A B C D k))
        have g1 : (0 : Int) ≤ k := by omega
        have g2 : (k : Int) < s.length := by omega
        have g3 : decide ((k : Int) < (s.length : Int)) = true := by simp; omega
        go_wp2
        refine wp_region_quiet_below (by kernel_rfl) (by kernel_rfl) ?_
        repeat (first | go_big_quiet_step ((first | (go_at_call 70; exact Calls.regrown_of (get_any op A B C D k k4 _)) | (go_at_call 69; exact Calls.regrown_of (fits_bel _ _ _)))) | quiet_step ((first | (go_at_call 70; exact Calls.regrown_of (get_any op A B C D k k4 _)) | (go_at_call 69; exact Calls.regrown_of (fits_bel _ _ _)))))
        refine wpQuiet_nil ?_
        intro wq hw'
        obtain ⟨⟨dq, osq⟩, hw''⟩ := hw'
        have hbq := below_regrown wr dq osq
        rw [← hw''] at hbq
        clear hw''
        have ia := InsAt.mono ⟨c0, c1, c2, c3, c4, fz⟩ hbq
        have hbw := below_step hb (Nat.le_of_lt hsz) hbq
        clear d0 d1 d2 d3 d4 c0 c1 c2 c3 c4
        go_wp2
        · have hf : (!fitsB (s[k].toNat) (opd A B C D k)) = true := by assumption
          go_ret
          exact ⟨ret_bool (by rw [hV.out, okQ_not k k4 (by rw [hz'.out]; simpa using hf)]; rfl), hbw⟩
        · have hf : (!fitsB (s[k].toNat) (opd A B C D k)) = false := by assumption
          exact ⟨⟨k + 1, by omega, by go_num, fun j hj => by
            by_cases e : j = k
            · subst e; rw [hz'.out]; simpa using hf
            · exact hz.out j (by omega), hbw, ia⟩, by simp [intOf]; omega⟩
      · have hz' := Lib.hid (ok1_out hin (opd A B C D k))
        have g2 : (s.length : Int) ≤ k := by omega
        go_wp2
        refine wp_region_quiet_below (by kernel_rfl) (by kernel_rfl) ?_
        repeat (first | go_big_quiet_step (fail) | quiet_step (fail))
        refine wpQuiet_nil ?_
        intro wq hw'
        obtain ⟨⟨dq, osq⟩, hw''⟩ := hw'
        have hbq := below_regrown wr dq osq
        rw [← hw''] at hbq
        clear hw''
        have ia := InsAt.mono ⟨c0, c1, c2, c3, c4, fz⟩ hbq
        have hbw := below_step hb (Nat.le_of_lt hsz) hbq
        obtain ⟨e0, e1, e2, e3, e4, fz⟩ := ia
        have hsq : w.heap.size < wq.heap.size := block_lt_of_cell e0
        clear d0 d1 d2 d3 d4 c0 c1 c2 c3 c4
        go_wp2_with (go_at_call 70; refine (get_any op A B C D k k4 _).mono ?_; rintro e w1 ⟨rfl, hb1⟩)
        · have hf : (opd A B C D k != 0) = true := by assumption
          go_ret
          exact ⟨ret_bool (by rw [hV.out, okQ_not k k4 (by rw [hz'.out]; simpa using hf)]; rfl), below_step hbw (Nat.le_of_lt hsq) hb1⟩
        · have hf : (opd A B C D k != 0) = false := by assumption
          exact ⟨⟨k + 1, by omega, by go_num, fun j hj => by
            by_cases e : j = k
            · subst e; rw [hz'.out]; simpa using hf
            · exact hz.out j (by omega), below_step hbw (Nat.le_of_lt hsq) hb1, InsAt.mono ⟨e0, e1, e2, e3, e4, fz⟩ hb1⟩, by simp [intOf]; omega⟩
theorem refValid_any (op : Nat) (hx : op < 256) (A B C D : Int) (w : World) :
    Calls Tryd.prog 54 #[.agg #[.int .u8 op, .int .i64 A, .int .i64 B, .int .i64 C, .int .i64 D]] w fun e w' => e = .returned (.bool (refV op A B C D)) ∧ Below w.heap.size w w' := by
  by_cases h35 : op < 35
  · exact refValid_lo op hx h35 A B C D w
  · have hV := Lib.hid (show refV op A B C D = false by simp [refV, h35])
    have hc := fun w => shape_any op hx w
    rw [show decide (op < 35) = false by simp [h35]] at hc
    have HC := Lib.hid hc
    clear hc h35
    go_enter Tryd.func54, Tryd.ntmps54
    go_wp2_with fail
    refine (HC.out _).mono ?_
    rintro e w' ⟨rfl, rfl⟩
    clear HC
    go_wp2
    go_ret
    exact ⟨ret_bool hV.out.symm, (Below.refl _ _).alloc (Nat.le_refl _) _⟩
set_option maxRecDepth 100000 in
theorem refMnemonic_any (op : Nat) (hx : op < 256) (w : World) :
    Calls Tryd.prog 60 #[.int .u8 op] w fun e w' => e = .returned (.string ⟨(mnem op).toArray⟩) ∧ Below w.heap.size w w' := by
  by_cases h35 : op < 35
  · go_enter Tryd.func60, Tryd.ntmps60
    go_wp2
    go_ret
    refine ⟨congrArg Ending.returned ?_, (Below.refl _ _).alloc (Nat.le_refl _) _⟩
    have hc : op = 0 ∨ op = 1 ∨ op = 2 ∨ op = 3 ∨ op = 4 ∨ op = 5 ∨ op = 6 ∨ op = 7 ∨ op = 8 ∨ op = 9 ∨ op = 10 ∨ op = 11 ∨ op = 12 ∨ op = 13 ∨ op = 14 ∨ op = 15 ∨ op = 16 ∨ op = 17 ∨ op = 18 ∨ op = 19 ∨ op = 20 ∨ op = 21 ∨ op = 22 ∨ op = 23 ∨ op = 24 ∨ op = 25 ∨ op = 26 ∨ op = 27 ∨ op = 28 ∨ op = 29 ∨ op = 30 ∨ op = 31 ∨ op = 32 ∨ op = 33 ∨ op = 34 := by omega
    rcases hc with rfl | rfl | rfl | rfl | rfl | rfl | rfl | rfl | rfl | rfl | rfl | rfl | rfl | rfl | rfl | rfl | rfl | rfl | rfl | rfl | rfl | rfl | rfl | rfl | rfl | rfl | rfl | rfl | rfl | rfl | rfl | rfl | rfl | rfl | rfl <;> rfl
  · have hm := Lib.hid (mnem_hi h35)
    go_enter Tryd.func60, Tryd.ntmps60
    go_wp2
    go_ret
    exact ⟨by rw [hm.out]; rfl, (Below.refl _ _).alloc (Nat.le_refl _) _⟩
theorem valid_ref (op : Nat) (A B C D : Int) : validB op A B C D = refV op A B C D := by
  by_cases h35 : op < 35
  · rcases op_cases h35 with rfl | rfl | rfl | rfl | rfl | rfl | rfl | rfl | rfl | rfl | rfl | rfl | rfl | rfl | rfl | rfl | rfl | rfl | rfl | rfl | rfl | rfl | rfl | rfl | rfl | rfl | rfl | rfl | rfl | rfl | rfl | rfl | rfl | rfl | rfl <;> simp [validB, refV, restB, formB, okQ, ok1, shapeL, opsN, distB, fitsB, Bool.and_assoc, Bool.and_comm, Bool.and_left_comm]
  · simp [validB, refV, h35]

end Go.Proofs.YtodiijoeeeeicaaDoor

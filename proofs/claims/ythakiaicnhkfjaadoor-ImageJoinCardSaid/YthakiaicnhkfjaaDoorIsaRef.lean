/-
  Contracts of the functions of the reference of layer 21, over this seat's translation.
-/
import Derived.Test.YthakiaicnhkfjaaDoorIsaWalks
import Derived.Lib.Hide
import Derived.Lib.QuietBelow
namespace Go.Proofs.YthakiaicnhkfjaaDoor
open Go.ChangeShapes Go.WideShapes Go.ChangeAt Go.RowKit Go.Sort

/-- One letter for each operand of an opcode. -/
def shapeL (op : Nat) : List UInt8 :=
  ([[], [114, 114], [114, 114], [114, 114], [114, 110], [114, 110], [114, 110], [114, 114], [114], [114, 114, 114, 111], [114, 107], [114, 114, 107, 107], [114, 107], [114, 107], [114, 107], [114, 107], [107, 107], [114], [114], [114], [114], [114, 101], [116], [114, 116], [114, 116], [116], [114, 116], [114, 116], [107, 107], [107, 107], [116], [116], [116], [116], []] : List (List UInt8)).getD op []
theorem shapeL_hi {op : Nat} (h : ¬ op < 35) : shapeL op = [] := by
  unfold shapeL; rw [List.getD_eq_getElem?_getD, List.getElem?_eq_none (by simp; omega)]; rfl

theorem ret_sb {s t : List UInt8} {a b : Bool} (h : s = t) (h2 : a = b) : Ending.returned (.tuple #[.string ⟨s.toArray⟩, .bool a]) = .returned (.tuple #[.string ⟨t.toArray⟩, .bool b]) := by rw [h, h2]

theorem shape_cases {op : Nat} {p : Nat → Prop} (hi : ¬ op < 35 → p op) (lo : ∀ k, k < 35 → op = k → p k) : p op := by
  by_cases h : op < 35
  · exact lo op h rfl
  · exact hi h

set_option maxRecDepth 100000 in
theorem shape_any (op : Nat) (_hx : op < 256) (w : World) :
    Calls Tryd.prog 46 #[.int .u8 op] w fun e w' => e = .returned (.tuple #[.string ⟨(shapeL op).toArray⟩, .bool (decide (op < 35))]) ∧ w = w' := by
  go_enter Tryd.func46, Tryd.ntmps46
  go_wp2
  all_goals go_ret2
  all_goals refine ⟨?_, rfl⟩
  all_goals simp only [beq_iff_eq, beq_eq_false_iff_ne, ne_eq] at *
  all_goals norm_cast at *
  all_goals first
    | (subst_vars; rfl)
    | (have hh : ¬ op < 35 := by omega
       rw [shapeL_hi hh]; simp [hh])

theorem get_any (op : Nat) (A B C D : Int) (k : Nat) (hk : k < 4) (w : World) :
    Calls Tryd.prog 48 #[.agg #[.int .u8 op, .int .i64 A, .int .i64 B, .int .i64 C, .int .i64 D], .int .i64 k] w fun e w' => e = .returned (.int .i64 (opd A B C D k)) ∧ Below w.heap.size w w' := by
  have : k = 0 ∨ k = 1 ∨ k = 2 ∨ k = 3 := by omega
  clear hk
  rcases this with rfl | rfl | rfl | rfl
  all_goals
    go_enter Tryd.func48, Tryd.ntmps48
    go_wp2
    go_ret
    exact ⟨rfl, (Below.refl _ _).alloc (Nat.le_refl _) _⟩

def fitsB (c : Nat) (x : Int) : Bool :=
  if c = 114 then regB x else if c = 107 then numB x else if c = 116 then idxB x else if c = 101 then decide (1 ≤ x) && decide (x ≤ 23) else if c = 111 then oprB x else true

theorem fits_any (c : Nat) (x : Int) (w : World) :
    Calls Tryd.prog 47 #[.int .u8 c, .int .i64 x] w fun e w' => e = .returned (.bool (fitsB c x)) ∧ w = w' := by
  by_cases a114 : c = 114
  · subst a114
    go_enter Tryd.func47, Tryd.ntmps47
    go_wp2
    all_goals go_ret
    all_goals exact ⟨ret_bool (by simp [fitsB, regB] <;> omega), rfl⟩
  have b114 : ((c : Int) == 114) = false := beq_eq_false_iff_ne.2 (by omega)
  by_cases a107 : c = 107
  · subst a107
    clear b114
    go_enter Tryd.func47, Tryd.ntmps47
    go_wp2
    all_goals go_ret
    all_goals exact ⟨ret_bool (by simp [fitsB, numB] <;> omega), rfl⟩
  have b107 : ((c : Int) == 107) = false := beq_eq_false_iff_ne.2 (by omega)
  by_cases a116 : c = 116
  · subst a116
    clear b114
    clear b107
    go_enter Tryd.func47, Tryd.ntmps47
    go_wp2
    all_goals go_ret
    all_goals exact ⟨ret_bool (by simp [fitsB, idxB] <;> omega), rfl⟩
  have b116 : ((c : Int) == 116) = false := beq_eq_false_iff_ne.2 (by omega)
  by_cases a101 : c = 101
  · subst a101
    clear b114
    clear b107
    clear b116
    go_enter Tryd.func47, Tryd.ntmps47
    go_wp2
    all_goals go_ret
    all_goals exact ⟨ret_bool (by simp [fitsB] <;> omega), rfl⟩
  have b101 : ((c : Int) == 101) = false := beq_eq_false_iff_ne.2 (by omega)
  by_cases a111 : c = 111
  · subst a111
    clear b114
    clear b107
    clear b116
    clear b101
    go_enter Tryd.func47, Tryd.ntmps47
    go_wp2
    all_goals go_ret
    all_goals exact ⟨ret_bool (by simp [fitsB, oprB] <;> omega), rfl⟩
  have b111 : ((c : Int) == 111) = false := beq_eq_false_iff_ne.2 (by omega)
  have hf := Lib.hid (show fitsB c x = true by simp [fitsB, a114, a107, a116, a101, a111])
  clear a114 a107 a116 a101 a111
  go_enter Tryd.func47, Tryd.ntmps47
  go_wp2
  go_ret
  exact ⟨ret_bool hf.out.symm, rfl⟩

theorem shape_class {op : Nat} (h : op < 35) : ((op = 0 ∨ op = 34) ∧ shapeL op = [])
    ∨ ((op = 1 ∨ op = 2 ∨ op = 3 ∨ op = 7) ∧ shapeL op = [114, 114])
    ∨ ((op = 4 ∨ op = 5 ∨ op = 6) ∧ shapeL op = [114, 110])
    ∨ ((op = 8 ∨ op = 17 ∨ op = 18 ∨ op = 19 ∨ op = 20) ∧ shapeL op = [114])
    ∨ ((op = 9) ∧ shapeL op = [114, 114, 114, 111])
    ∨ ((op = 10 ∨ op = 12 ∨ op = 13 ∨ op = 14 ∨ op = 15) ∧ shapeL op = [114, 107])
    ∨ ((op = 11) ∧ shapeL op = [114, 114, 107, 107])
    ∨ ((op = 16 ∨ op = 28 ∨ op = 29) ∧ shapeL op = [107, 107])
    ∨ ((op = 21) ∧ shapeL op = [114, 101])
    ∨ ((op = 22 ∨ op = 25 ∨ op = 30 ∨ op = 31 ∨ op = 32 ∨ op = 33) ∧ shapeL op = [116])
    ∨ ((op = 23 ∨ op = 24 ∨ op = 26 ∨ op = 27) ∧ shapeL op = [114, 116]) := by
  have hc : op = 0 ∨ op = 1 ∨ op = 2 ∨ op = 3 ∨ op = 4 ∨ op = 5 ∨ op = 6 ∨ op = 7 ∨ op = 8 ∨ op = 9 ∨ op = 10 ∨ op = 11 ∨ op = 12 ∨ op = 13 ∨ op = 14 ∨ op = 15 ∨ op = 16 ∨ op = 17 ∨ op = 18 ∨ op = 19 ∨ op = 20 ∨ op = 21 ∨ op = 22 ∨ op = 23 ∨ op = 24 ∨ op = 25 ∨ op = 26 ∨ op = 27 ∨ op = 28 ∨ op = 29 ∨ op = 30 ∨ op = 31 ∨ op = 32 ∨ op = 33 ∨ op = 34 := by omega
  rcases hc with rfl | rfl | rfl | rfl | rfl | rfl | rfl | rfl | rfl | rfl | rfl | rfl | rfl | rfl | rfl | rfl | rfl | rfl | rfl | rfl | rfl | rfl | rfl | rfl | rfl | rfl | rfl | rfl | rfl | rfl | rfl | rfl | rfl | rfl | rfl <;> simp [shapeL]

def ok1 (s : List UInt8) (k : Nat) (x : Int) : Bool := match s[k]? with | some c => fitsB c.toNat x | none => x == 0
def okL (s : List UInt8) (A B C D : Int) : Bool := ok1 s 0 A && ok1 s 1 B && ok1 s 2 C && ok1 s 3 D
def distB (op : Nat) (A B C : Int) : Bool :=
  if op = 1 ∨ op = 2 ∨ op = 3 ∨ op = 11 then A != B else if op = 9 then A != B && A != C else true
/-- The reference's Valid. -/
def refV (op : Nat) (A B C D : Int) : Bool := decide (op < 35) && okL (shapeL op) A B C D && distB op A B C


end Go.Proofs.YthakiaicnhkfjaaDoor

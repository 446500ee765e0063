/-
  The contracts of arith.number, arith.divide and arith.Apply.
-/
import Derived.Test.YtcoeakdpcigogaaDoorFunBase
import Derived.WalkLawsBesides
namespace Go.Proofs.YtcoeakdpcigogaaDoor
open Go.ChangeShapes Go.WideShapes Go.ChangeAt Go.RowKit Go.Sort

def numB (b : Bool) : Int := if b = true then 1 else 0

set_option maxRecDepth 100000 in
theorem number_any (b : Bool) (w : World) :
    Calls Tryd.prog 97 #[.bool b] w fun e w' => e = .returned (.int .i64 (numB b)) ∧ w = w' := by
  cases b <;>
  · go_enter Tryd.func97, Tryd.ntmps97
    go_wp2_with fail
    go_ret
    exact ⟨rfl, rfl⟩

def divR (op x y : Int) : Int × Int := if y = 0 then (0, 11) else if op = 11 then (wrap64 (x.tdiv y), 0) else (x.tmod y, 0)
theorem divR_0 (op x : Int) : divR op x 0 = (0, 11) := by unfold divR; rw [if_pos rfl]
theorem divR_1 {y : Int} (h : y ≠ 0) (x : Int) : divR 11 x y = (wrap64 (x.tdiv y), 0) := by unfold divR; rw [if_neg h, if_pos rfl]
theorem divR_2 {op y : Int} (h : y ≠ 0) (h2 : op ≠ 11) (x : Int) : divR op x y = (x.tmod y, 0) := by unfold divR; rw [if_neg h, if_neg h2]

set_option maxRecDepth 100000 in
theorem divide_any (op x y : Int) (w : World) :
    Calls Tryd.prog 96 #[.int .u8 op, .int .i64 x, .int .i64 y] w fun e w' => e = .returned (.tuple #[.int .i64 (divR op x y).1, .int .i64 (divR op x y).2]) ∧ w = w' := by
  by_cases hy : y = 0
  · subst hy
    go_enter Tryd.func96, Tryd.ntmps96
    go_wp2_with fail
    go_ret2
    exact ⟨by rw [divR_0]; rfl, rfl⟩
  have hy1 : (y == 0) = false := by simpa using hy
  by_cases ho : op = 11
  · subst ho
    have HY := Lib.hid hy
    clear hy
    go_enter Tryd.func96, Tryd.ntmps96
    go_wp2_with fail
    go_ret2
    exact ⟨by rw [divR_1 HY.out]; rfl, rfl⟩
  · have ho1 : (op == 11) = false := by simpa using ho
    have HY := Lib.hid hy
    have HO := Lib.hid ho
    clear hy ho
    go_enter Tryd.func96, Tryd.ntmps96
    go_wp2_with fail
    go_ret2
    exact ⟨by rw [divR_2 HY.out HO.out]; rfl, rfl⟩

/-- The value of a binary operator, and an error's number. -/
def apR (op x y : Int) : Int × Int :=
  if op = 8 then (wrap64 (x + y), 0)
  else if op = 9 then (wrap64 (x - y), 0)
  else if op = 10 then (wrap64 (x * y), 0)
  else if op = 11 then divR 11 x y
  else if op = 12 then divR 12 x y
  else if op = 13 then (bits BinOp.and IntKind.i64 x y, 0)
  else if op = 14 then (bits BinOp.or IntKind.i64 x y, 0)
  else if op = 15 then (bits BinOp.xor IntKind.i64 x y, 0)
  else if op = 16 then (numB (x == y), 0)
  else if op = 17 then (numB (x != y), 0)
  else if op = 18 then (numB (decide (x < y)), 0)
  else if op = 19 then (numB (decide (x ≤ y)), 0)
  else if op = 20 then (numB (decide (y < x)), 0)
  else if op = 21 then (numB (decide (y ≤ x)), 0)
  else if op = 22 then (numB (x != 0 && y != 0), 0)
  else if op = 23 then (numB (x != 0 || y != 0), 0)
  else (0, 7)

set_option maxRecDepth 100000 in
theorem apply_8 (x y : Int) (w : World) :
    Calls Tryd.prog 89 #[.int .u8 8, .int .i64 x, .int .i64 y] w fun e w' => e = .returned (.tuple #[.int .i64 (apR 8 x y).1, .int .i64 (apR 8 x y).2]) ∧ w = w' := by
  go_enter Tryd.func89, Tryd.ntmps89
  go_wp2_with (first | ((with_reducible refine (number_any _ _).mono ?_); rintro e w ⟨rfl, rfl⟩) | ((with_reducible refine (divide_any _ _ _ _).mono ?_); rintro e w ⟨rfl, rfl⟩))
  all_goals
    go_ret2
    exact ⟨rfl, rfl⟩
set_option maxRecDepth 100000 in
theorem apply_9 (x y : Int) (w : World) :
    Calls Tryd.prog 89 #[.int .u8 9, .int .i64 x, .int .i64 y] w fun e w' => e = .returned (.tuple #[.int .i64 (apR 9 x y).1, .int .i64 (apR 9 x y).2]) ∧ w = w' := by
  go_enter Tryd.func89, Tryd.ntmps89
  go_wp2_with (first | ((with_reducible refine (number_any _ _).mono ?_); rintro e w ⟨rfl, rfl⟩) | ((with_reducible refine (divide_any _ _ _ _).mono ?_); rintro e w ⟨rfl, rfl⟩))
  all_goals
    go_ret2
    exact ⟨rfl, rfl⟩
set_option maxRecDepth 100000 in
theorem apply_10 (x y : Int) (w : World) :
    Calls Tryd.prog 89 #[.int .u8 10, .int .i64 x, .int .i64 y] w fun e w' => e = .returned (.tuple #[.int .i64 (apR 10 x y).1, .int .i64 (apR 10 x y).2]) ∧ w = w' := by
  go_enter Tryd.func89, Tryd.ntmps89
  go_wp2_with (first | ((with_reducible refine (number_any _ _).mono ?_); rintro e w ⟨rfl, rfl⟩) | ((with_reducible refine (divide_any _ _ _ _).mono ?_); rintro e w ⟨rfl, rfl⟩))
  all_goals
    go_ret2
    exact ⟨rfl, rfl⟩
set_option maxRecDepth 100000 in
theorem apply_11 (x y : Int) (w : World) :
    Calls Tryd.prog 89 #[.int .u8 11, .int .i64 x, .int .i64 y] w fun e w' => e = .returned (.tuple #[.int .i64 (apR 11 x y).1, .int .i64 (apR 11 x y).2]) ∧ w = w' := by
  go_enter Tryd.func89, Tryd.ntmps89
  go_wp2_with (first | ((with_reducible refine (number_any _ _).mono ?_); rintro e w ⟨rfl, rfl⟩) | ((with_reducible refine (divide_any _ _ _ _).mono ?_); rintro e w ⟨rfl, rfl⟩))
  all_goals
    go_ret2
    exact ⟨rfl, rfl⟩
set_option maxRecDepth 100000 in
theorem apply_12 (x y : Int) (w : World) :
    Calls Tryd.prog 89 #[.int .u8 12, .int .i64 x, .int .i64 y] w fun e w' => e = .returned (.tuple #[.int .i64 (apR 12 x y).1, .int .i64 (apR 12 x y).2]) ∧ w = w' := by
  go_enter Tryd.func89, Tryd.ntmps89
  go_wp2_with (first | ((with_reducible refine (number_any _ _).mono ?_); rintro e w ⟨rfl, rfl⟩) | ((with_reducible refine (divide_any _ _ _ _).mono ?_); rintro e w ⟨rfl, rfl⟩))
  all_goals
    go_ret2
    exact ⟨rfl, rfl⟩
set_option maxRecDepth 100000 in
theorem apply_13 (x y : Int) (w : World) :
    Calls Tryd.prog 89 #[.int .u8 13, .int .i64 x, .int .i64 y] w fun e w' => e = .returned (.tuple #[.int .i64 (apR 13 x y).1, .int .i64 (apR 13 x y).2]) ∧ w = w' := by
  go_enter Tryd.func89, Tryd.ntmps89
  go_wp2_with (first | ((with_reducible refine (number_any _ _).mono ?_); rintro e w ⟨rfl, rfl⟩) | ((with_reducible refine (divide_any _ _ _ _).mono ?_); rintro e w ⟨rfl, rfl⟩))
  all_goals
    go_ret2
    exact ⟨rfl, rfl⟩
set_option maxRecDepth 100000 in
theorem apply_14 (x y : Int) (w : World) :
    Calls Tryd.prog 89 #[.int .u8 14, .int .i64 x, .int .i64 y] w fun e w' => e = .returned (.tuple #[.int .i64 (apR 14 x y).1, .int .i64 (apR 14 x y).2]) ∧ w = w' := by
  go_enter Tryd.func89, Tryd.ntmps89
  go_wp2_with (first | ((with_reducible refine (number_any _ _).mono ?_); rintro e w ⟨rfl, rfl⟩) | ((with_reducible refine (divide_any _ _ _ _).mono ?_); rintro e w ⟨rfl, rfl⟩))
  all_goals
    go_ret2
    exact ⟨rfl, rfl⟩
set_option maxRecDepth 100000 in
theorem apply_15 (x y : Int) (w : World) :
    Calls Tryd.prog 89 #[.int .u8 15, .int .i64 x, .int .i64 y] w fun e w' => e = .returned (.tuple #[.int .i64 (apR 15 x y).1, .int .i64 (apR 15 x y).2]) ∧ w = w' := by
  go_enter Tryd.func89, Tryd.ntmps89
  go_wp2_with (first | ((with_reducible refine (number_any _ _).mono ?_); rintro e w ⟨rfl, rfl⟩) | ((with_reducible refine (divide_any _ _ _ _).mono ?_); rintro e w ⟨rfl, rfl⟩))
  all_goals
    go_ret2
    exact ⟨rfl, rfl⟩
set_option maxRecDepth 100000 in
theorem apply_16 (x y : Int) (w : World) :
    Calls Tryd.prog 89 #[.int .u8 16, .int .i64 x, .int .i64 y] w fun e w' => e = .returned (.tuple #[.int .i64 (apR 16 x y).1, .int .i64 (apR 16 x y).2]) ∧ w = w' := by
  go_enter Tryd.func89, Tryd.ntmps89
  go_wp2_with (first | ((with_reducible refine (number_any _ _).mono ?_); rintro e w ⟨rfl, rfl⟩) | ((with_reducible refine (divide_any _ _ _ _).mono ?_); rintro e w ⟨rfl, rfl⟩))
  all_goals
    go_ret2
    exact ⟨rfl, rfl⟩
set_option maxRecDepth 100000 in
theorem apply_17 (x y : Int) (w : World) :
    Calls Tryd.prog 89 #[.int .u8 17, .int .i64 x, .int .i64 y] w fun e w' => e = .returned (.tuple #[.int .i64 (apR 17 x y).1, .int .i64 (apR 17 x y).2]) ∧ w = w' := by
  go_enter Tryd.func89, Tryd.ntmps89
  go_wp2_with (first | ((with_reducible refine (number_any _ _).mono ?_); rintro e w ⟨rfl, rfl⟩) | ((with_reducible refine (divide_any _ _ _ _).mono ?_); rintro e w ⟨rfl, rfl⟩))
  all_goals
    go_ret2
    exact ⟨rfl, rfl⟩
set_option maxRecDepth 100000 in
theorem apply_18 (x y : Int) (w : World) :
    Calls Tryd.prog 89 #[.int .u8 18, .int .i64 x, .int .i64 y] w fun e w' => e = .returned (.tuple #[.int .i64 (apR 18 x y).1, .int .i64 (apR 18 x y).2]) ∧ w = w' := by
  go_enter Tryd.func89, Tryd.ntmps89
  go_wp2_with (first | ((with_reducible refine (number_any _ _).mono ?_); rintro e w ⟨rfl, rfl⟩) | ((with_reducible refine (divide_any _ _ _ _).mono ?_); rintro e w ⟨rfl, rfl⟩))
  all_goals
    go_ret2
    exact ⟨rfl, rfl⟩
set_option maxRecDepth 100000 in
theorem apply_19 (x y : Int) (w : World) :
    Calls Tryd.prog 89 #[.int .u8 19, .int .i64 x, .int .i64 y] w fun e w' => e = .returned (.tuple #[.int .i64 (apR 19 x y).1, .int .i64 (apR 19 x y).2]) ∧ w = w' := by
  go_enter Tryd.func89, Tryd.ntmps89
  go_wp2_with (first | ((with_reducible refine (number_any _ _).mono ?_); rintro e w ⟨rfl, rfl⟩) | ((with_reducible refine (divide_any _ _ _ _).mono ?_); rintro e w ⟨rfl, rfl⟩))
  all_goals
    go_ret2
    exact ⟨rfl, rfl⟩
set_option maxRecDepth 100000 in
theorem apply_20 (x y : Int) (w : World) :
    Calls Tryd.prog 89 #[.int .u8 20, .int .i64 x, .int .i64 y] w fun e w' => e = .returned (.tuple #[.int .i64 (apR 20 x y).1, .int .i64 (apR 20 x y).2]) ∧ w = w' := by
  go_enter Tryd.func89, Tryd.ntmps89
  go_wp2_with (first | ((with_reducible refine (number_any _ _).mono ?_); rintro e w ⟨rfl, rfl⟩) | ((with_reducible refine (divide_any _ _ _ _).mono ?_); rintro e w ⟨rfl, rfl⟩))
  all_goals
    go_ret2
    exact ⟨rfl, rfl⟩
set_option maxRecDepth 100000 in
theorem apply_21 (x y : Int) (w : World) :
    Calls Tryd.prog 89 #[.int .u8 21, .int .i64 x, .int .i64 y] w fun e w' => e = .returned (.tuple #[.int .i64 (apR 21 x y).1, .int .i64 (apR 21 x y).2]) ∧ w = w' := by
  go_enter Tryd.func89, Tryd.ntmps89
  go_wp2_with (first | ((with_reducible refine (number_any _ _).mono ?_); rintro e w ⟨rfl, rfl⟩) | ((with_reducible refine (divide_any _ _ _ _).mono ?_); rintro e w ⟨rfl, rfl⟩))
  all_goals
    go_ret2
    exact ⟨rfl, rfl⟩
set_option maxRecDepth 100000 in
theorem apply_22 (x y : Int) (w : World) :
    Calls Tryd.prog 89 #[.int .u8 22, .int .i64 x, .int .i64 y] w fun e w' => e = .returned (.tuple #[.int .i64 (apR 22 x y).1, .int .i64 (apR 22 x y).2]) ∧ w = w' := by
  have HA : apR 22 x y = (numB (x != 0 && y != 0), 0) := rfl
  cases hx : (x != 0) <;> cases hy : (y != 0)
  all_goals
    rw [HA, hx, hy]
    clear HA
    go_enter Tryd.func89, Tryd.ntmps89
    go_wp2_with (first | ((with_reducible refine (number_any _ _).mono ?_); rintro e w ⟨rfl, rfl⟩))
    go_ret2
    exact ⟨rfl, rfl⟩
set_option maxRecDepth 100000 in
theorem apply_23 (x y : Int) (w : World) :
    Calls Tryd.prog 89 #[.int .u8 23, .int .i64 x, .int .i64 y] w fun e w' => e = .returned (.tuple #[.int .i64 (apR 23 x y).1, .int .i64 (apR 23 x y).2]) ∧ w = w' := by
  have HA : apR 23 x y = (numB (x != 0 || y != 0), 0) := rfl
  cases hx : (x != 0) <;> cases hy : (y != 0)
  all_goals
    rw [HA, hx, hy]
    clear HA
    go_enter Tryd.func89, Tryd.ntmps89
    go_wp2_with (first | ((with_reducible refine (number_any _ _).mono ?_); rintro e w ⟨rfl, rfl⟩))
    go_ret2
    exact ⟨rfl, rfl⟩

theorem apply_any (k : Nat) (h : 8 ≤ k) (h' : k ≤ 23) (x y : Int) (w : World) :
    Calls Tryd.prog 89 #[.int .u8 k, .int .i64 x, .int .i64 y] w fun e w' => e = .returned (.tuple #[.int .i64 (apR k x y).1, .int .i64 (apR k x y).2]) ∧ w = w' := by
  have hk : k = 8 ∨ k = 9 ∨ k = 10 ∨ k = 11 ∨ k = 12 ∨ k = 13 ∨ k = 14 ∨ k = 15 ∨ k = 16 ∨ k = 17 ∨ k = 18 ∨ k = 19 ∨ k = 20 ∨ k = 21 ∨ k = 22 ∨ k = 23 := by omega
  clear h h'
  rcases hk with rfl | rfl | rfl | rfl | rfl | rfl | rfl | rfl | rfl | rfl | rfl | rfl | rfl | rfl | rfl | rfl
  · exact apply_8 x y w
  · exact apply_9 x y w
  · exact apply_10 x y w
  · exact apply_11 x y w
  · exact apply_12 x y w
  · exact apply_13 x y w
  · exact apply_14 x y w
  · exact apply_15 x y w
  · exact apply_16 x y w
  · exact apply_17 x y w
  · exact apply_18 x y w
  · exact apply_19 x y w
  · exact apply_20 x y w
  · exact apply_21 x y w
  · exact apply_22 x y w
  · exact apply_23 x y w

end Go.Proofs.YtcoeakdpcigogaaDoor

/-
  The contract of the reference's Inverse.
-/
import Derived.Test.YthakiaicnhkfjaaDoorIsaRefV
namespace Go.Proofs.YthakiaicnhkfjaaDoor
open Go.ChangeShapes Go.WideShapes Go.ChangeAt Go.RowKit Go.Sort

def pairL : List Nat := [1, 2, 4, 5, 12, 13, 17, 18, 19, 20, 22, 25, 23, 26, 24, 27, 28, 29, 32, 33]

set_option maxRecDepth 100000 in
set_option maxHeartbeats 2000000 in
theorem refInverse_any (op : Nat) (w : World) :
    Calls Tryd.prog 33 #[.int .u8 op] w fun e w' => e = .returned (.int .u8 (invN op)) ∧ Below w.heap.size w w' := by
  go_enter Tryd.func33, Tryd.ntmps33
  go_wp2
  go_loop [4] (fun i => ∃ k : Nat, k ≤ 10 ∧ i = .int .i64 (2 * k : Nat) ∧ Hid (∀ j, j < 2 * k → op ≠ pairL.getD j 0)) (fun i => 20 - (intOf i).toNat)
  case atStart => exact ⟨0, by omega, rfl, fun j hj => by omega⟩
  case round =>
    obtain ⟨k, hk, rfl, hz⟩ := hrel
    have hc : k = 0 ∨ k = 1 ∨ k = 2 ∨ k = 3 ∨ k = 4 ∨ k = 5 ∨ k = 6 ∨ k = 7 ∨ k = 8 ∨ k = 9 ∨ k = 10 := by omega
    rcases hc with rfl | rfl | rfl | rfl | rfl | rfl | rfl | rfl | rfl | rfl | rfl
    case inr.inr.inr.inr.inr.inr.inr.inr.inr.inr =>
      have hf := Lib.hid (show invN op = op by
        have h0 := hz.out
        simp only [pairL] at h0
        have := h0 0 (by omega); have := h0 1 (by omega); have := h0 2 (by omega); have := h0 3 (by omega); have := h0 4 (by omega); have := h0 5 (by omega); have := h0 6 (by omega); have := h0 7 (by omega); have := h0 8 (by omega); have := h0 9 (by omega)
        have := h0 10 (by omega); have := h0 11 (by omega); have := h0 12 (by omega); have := h0 13 (by omega); have := h0 14 (by omega); have := h0 15 (by omega); have := h0 16 (by omega); have := h0 17 (by omega); have := h0 18 (by omega); have := h0 19 (by omega)
        clear h0 hz
        simp at *
        simp [invN, *])
      clear hz
      go_wp2
      go_ret
      exact ⟨ret_u8 (by rw [hf.out]), (Below.refl _ _).alloc (Nat.le_refl _) _⟩
    case inl =>
      go_wp2
      · have h1 : ((op : Int) == 1) = true := by first | assumption | (rw [beq_iff_eq]; symm; rw [← beq_iff_eq (a := (1 : Int))]; assumption)
        obtain rfl : op = 1 := by rw [beq_iff_eq] at h1; omega
        go_ret
        exact ⟨rfl, (Below.refl _ _).alloc (Nat.le_refl _) _⟩
      · have h1 : ((op : Int) == 2) = true := by first | assumption | (rw [beq_iff_eq]; symm; rw [← beq_iff_eq (a := (2 : Int))]; assumption)
        obtain rfl : op = 2 := by rw [beq_iff_eq] at h1; omega
        go_ret
        exact ⟨rfl, (Below.refl _ _).alloc (Nat.le_refl _) _⟩
      · have h1 : op ≠ 1 := by rintro rfl; simp_all
        have h2 : op ≠ 2 := by rintro rfl; simp_all
        exact ⟨⟨1, by omega, by go_num, fun j hj => by
          by_cases hjj : j < 2 * 0
          · exact hz.out j hjj
          · have : j = 0 ∨ j = 1 := by omega
            rcases this with rfl | rfl
            · exact h1
            · exact h2⟩, by simp [intOf]⟩
    case inr.inl =>
      go_wp2
      · have h1 : ((op : Int) == 4) = true := by first | assumption | (rw [beq_iff_eq]; symm; rw [← beq_iff_eq (a := (4 : Int))]; assumption)
        obtain rfl : op = 4 := by rw [beq_iff_eq] at h1; omega
        go_ret
        exact ⟨rfl, (Below.refl _ _).alloc (Nat.le_refl _) _⟩
      · have h1 : ((op : Int) == 5) = true := by first | assumption | (rw [beq_iff_eq]; symm; rw [← beq_iff_eq (a := (5 : Int))]; assumption)
        obtain rfl : op = 5 := by rw [beq_iff_eq] at h1; omega
        go_ret
        exact ⟨rfl, (Below.refl _ _).alloc (Nat.le_refl _) _⟩
      · have h1 : op ≠ 4 := by rintro rfl; simp_all
        have h2 : op ≠ 5 := by rintro rfl; simp_all
        exact ⟨⟨2, by omega, by go_num, fun j hj => by
          by_cases hjj : j < 2 * 1
          · exact hz.out j hjj
          · have : j = 2 ∨ j = 3 := by omega
            rcases this with rfl | rfl
            · exact h1
            · exact h2⟩, by simp [intOf]⟩
    case inr.inr.inl =>
      go_wp2
      · have h1 : ((op : Int) == 12) = true := by first | assumption | (rw [beq_iff_eq]; symm; rw [← beq_iff_eq (a := (12 : Int))]; assumption)
        obtain rfl : op = 12 := by rw [beq_iff_eq] at h1; omega
        go_ret
        exact ⟨rfl, (Below.refl _ _).alloc (Nat.le_refl _) _⟩
      · have h1 : ((op : Int) == 13) = true := by first | assumption | (rw [beq_iff_eq]; symm; rw [← beq_iff_eq (a := (13 : Int))]; assumption)
        obtain rfl : op = 13 := by rw [beq_iff_eq] at h1; omega
        go_ret
        exact ⟨rfl, (Below.refl _ _).alloc (Nat.le_refl _) _⟩
      · have h1 : op ≠ 12 := by rintro rfl; simp_all
        have h2 : op ≠ 13 := by rintro rfl; simp_all
        exact ⟨⟨3, by omega, by go_num, fun j hj => by
          by_cases hjj : j < 2 * 2
          · exact hz.out j hjj
          · have : j = 4 ∨ j = 5 := by omega
            rcases this with rfl | rfl
            · exact h1
            · exact h2⟩, by simp [intOf]⟩
    case inr.inr.inr.inl =>
      go_wp2
      · have h1 : ((op : Int) == 17) = true := by first | assumption | (rw [beq_iff_eq]; symm; rw [← beq_iff_eq (a := (17 : Int))]; assumption)
        obtain rfl : op = 17 := by rw [beq_iff_eq] at h1; omega
        go_ret
        exact ⟨rfl, (Below.refl _ _).alloc (Nat.le_refl _) _⟩
      · have h1 : ((op : Int) == 18) = true := by first | assumption | (rw [beq_iff_eq]; symm; rw [← beq_iff_eq (a := (18 : Int))]; assumption)
        obtain rfl : op = 18 := by rw [beq_iff_eq] at h1; omega
        go_ret
        exact ⟨rfl, (Below.refl _ _).alloc (Nat.le_refl _) _⟩
      · have h1 : op ≠ 17 := by rintro rfl; simp_all
        have h2 : op ≠ 18 := by rintro rfl; simp_all
        exact ⟨⟨4, by omega, by go_num, fun j hj => by
          by_cases hjj : j < 2 * 3
          · exact hz.out j hjj
          · have : j = 6 ∨ j = 7 := by omega
            rcases this with rfl | rfl
            · exact h1
            · exact h2⟩, by simp [intOf]⟩
    case inr.inr.inr.inr.inl =>
      go_wp2
      · have h1 : ((op : Int) == 19) = true := by first | assumption | (rw [beq_iff_eq]; symm; rw [← beq_iff_eq (a := (19 : Int))]; assumption)
        obtain rfl : op = 19 := by rw [beq_iff_eq] at h1; omega
        go_ret
        exact ⟨rfl, (Below.refl _ _).alloc (Nat.le_refl _) _⟩
      · have h1 : ((op : Int) == 20) = true := by first | assumption | (rw [beq_iff_eq]; symm; rw [← beq_iff_eq (a := (20 : Int))]; assumption)
        obtain rfl : op = 20 := by rw [beq_iff_eq] at h1; omega
        go_ret
        exact ⟨rfl, (Below.refl _ _).alloc (Nat.le_refl _) _⟩
      · have h1 : op ≠ 19 := by rintro rfl; simp_all
        have h2 : op ≠ 20 := by rintro rfl; simp_all
        exact ⟨⟨5, by omega, by go_num, fun j hj => by
          by_cases hjj : j < 2 * 4
          · exact hz.out j hjj
          · have : j = 8 ∨ j = 9 := by omega
            rcases this with rfl | rfl
            · exact h1
            · exact h2⟩, by simp [intOf]⟩
    case inr.inr.inr.inr.inr.inl =>
      go_wp2
      · have h1 : ((op : Int) == 22) = true := by first | assumption | (rw [beq_iff_eq]; symm; rw [← beq_iff_eq (a := (22 : Int))]; assumption)
        obtain rfl : op = 22 := by rw [beq_iff_eq] at h1; omega
        go_ret
        exact ⟨rfl, (Below.refl _ _).alloc (Nat.le_refl _) _⟩
      · have h1 : ((op : Int) == 25) = true := by first | assumption | (rw [beq_iff_eq]; symm; rw [← beq_iff_eq (a := (25 : Int))]; assumption)
        obtain rfl : op = 25 := by rw [beq_iff_eq] at h1; omega
        go_ret
        exact ⟨rfl, (Below.refl _ _).alloc (Nat.le_refl _) _⟩
      · have h1 : op ≠ 22 := by rintro rfl; simp_all
        have h2 : op ≠ 25 := by rintro rfl; simp_all
        exact ⟨⟨6, by omega, by go_num, fun j hj => by
          by_cases hjj : j < 2 * 5
          · exact hz.out j hjj
          · have : j = 10 ∨ j = 11 := by omega
            rcases this with rfl | rfl
            · exact h1
            · exact h2⟩, by simp [intOf]⟩
    case inr.inr.inr.inr.inr.inr.inl =>
      go_wp2
      · have h1 : ((op : Int) == 23) = true := by first | assumption | (rw [beq_iff_eq]; symm; rw [← beq_iff_eq (a := (23 : Int))]; assumption)
        obtain rfl : op = 23 := by rw [beq_iff_eq] at h1; omega
        go_ret
        exact ⟨rfl, (Below.refl _ _).alloc (Nat.le_refl _) _⟩
      · have h1 : ((op : Int) == 26) = true := by first | assumption | (rw [beq_iff_eq]; symm; rw [← beq_iff_eq (a := (26 : Int))]; assumption)
        obtain rfl : op = 26 := by rw [beq_iff_eq] at h1; omega
        go_ret
        exact ⟨rfl, (Below.refl _ _).alloc (Nat.le_refl _) _⟩
      · have h1 : op ≠ 23 := by rintro rfl; simp_all
        have h2 : op ≠ 26 := by rintro rfl; simp_all
        exact ⟨⟨7, by omega, by go_num, fun j hj => by
          by_cases hjj : j < 2 * 6
          · exact hz.out j hjj
          · have : j = 12 ∨ j = 13 := by omega
            rcases this with rfl | rfl
            · exact h1
            · exact h2⟩, by simp [intOf]⟩
    case inr.inr.inr.inr.inr.inr.inr.inl =>
      go_wp2
      · have h1 : ((op : Int) == 24) = true := by first | assumption | (rw [beq_iff_eq]; symm; rw [← beq_iff_eq (a := (24 : Int))]; assumption)
        obtain rfl : op = 24 := by rw [beq_iff_eq] at h1; omega
        go_ret
        exact ⟨rfl, (Below.refl _ _).alloc (Nat.le_refl _) _⟩
      · have h1 : ((op : Int) == 27) = true := by first | assumption | (rw [beq_iff_eq]; symm; rw [← beq_iff_eq (a := (27 : Int))]; assumption)
        obtain rfl : op = 27 := by rw [beq_iff_eq] at h1; omega
        go_ret
        exact ⟨rfl, (Below.refl _ _).alloc (Nat.le_refl _) _⟩
      · have h1 : op ≠ 24 := by rintro rfl; simp_all
        have h2 : op ≠ 27 := by rintro rfl; simp_all
        exact ⟨⟨8, by omega, by go_num, fun j hj => by
          by_cases hjj : j < 2 * 7
          · exact hz.out j hjj
          · have : j = 14 ∨ j = 15 := by omega
            rcases this with rfl | rfl
            · exact h1
            · exact h2⟩, by simp [intOf]⟩
    case inr.inr.inr.inr.inr.inr.inr.inr.inl =>
      go_wp2
      · have h1 : ((op : Int) == 28) = true := by first | assumption | (rw [beq_iff_eq]; symm; rw [← beq_iff_eq (a := (28 : Int))]; assumption)
        obtain rfl : op = 28 := by rw [beq_iff_eq] at h1; omega
        go_ret
        exact ⟨rfl, (Below.refl _ _).alloc (Nat.le_refl _) _⟩
      · have h1 : ((op : Int) == 29) = true := by first | assumption | (rw [beq_iff_eq]; symm; rw [← beq_iff_eq (a := (29 : Int))]; assumption)
        obtain rfl : op = 29 := by rw [beq_iff_eq] at h1; omega
        go_ret
        exact ⟨rfl, (Below.refl _ _).alloc (Nat.le_refl _) _⟩
      · have h1 : op ≠ 28 := by rintro rfl; simp_all
        have h2 : op ≠ 29 := by rintro rfl; simp_all
        exact ⟨⟨9, by omega, by go_num, fun j hj => by
          by_cases hjj : j < 2 * 8
          · exact hz.out j hjj
          · have : j = 16 ∨ j = 17 := by omega
            rcases this with rfl | rfl
            · exact h1
            · exact h2⟩, by simp [intOf]⟩
    case inr.inr.inr.inr.inr.inr.inr.inr.inr.inl =>
      go_wp2
      · have h1 : ((op : Int) == 32) = true := by first | assumption | (rw [beq_iff_eq]; symm; rw [← beq_iff_eq (a := (32 : Int))]; assumption)
        obtain rfl : op = 32 := by rw [beq_iff_eq] at h1; omega
        go_ret
        exact ⟨rfl, (Below.refl _ _).alloc (Nat.le_refl _) _⟩
      · have h1 : ((op : Int) == 33) = true := by first | assumption | (rw [beq_iff_eq]; symm; rw [← beq_iff_eq (a := (33 : Int))]; assumption)
        obtain rfl : op = 33 := by rw [beq_iff_eq] at h1; omega
        go_ret
        exact ⟨rfl, (Below.refl _ _).alloc (Nat.le_refl _) _⟩
      · have h1 : op ≠ 32 := by rintro rfl; simp_all
        have h2 : op ≠ 33 := by rintro rfl; simp_all
        exact ⟨⟨10, by omega, by go_num, fun j hj => by
          by_cases hjj : j < 2 * 9
          · exact hz.out j hjj
          · have : j = 18 ∨ j = 19 := by omega
            rcases this with rfl | rfl
            · exact h1
            · exact h2⟩, by simp [intOf]⟩

end Go.Proofs.YthakiaicnhkfjaaDoor

/-
  The contract of isa.Valid.
-/
import Derived.Test.YthakiaicnhkfjaaDoorIsaWalks
import Derived.Lib.Hide
namespace Go.Proofs.YthakiaicnhkfjaaDoor
open Go.ChangeShapes Go.WideShapes Go.ChangeAt Go.RowKit

theorem opd_rest {op : Nat} {A B C D : Int} (h : ∀ j, j < 4 → opsN op ≤ j → opd A B C D j = 0) : restB op A B C D = true := by
  have a0 := h 0 (by omega); have a1 := h 1 (by omega); have a2 := h 2 (by omega); have a3 := h 3 (by omega)
  simp only [opd, List.getD_cons_zero, List.getD_cons_succ] at a0 a1 a2 a3
  simp only [restB, Bool.and_eq_true, Bool.or_eq_true, decide_eq_true_eq, beq_iff_eq]
  refine ⟨⟨⟨?_, ?_⟩, ?_⟩, ?_⟩ <;> omega
theorem rest_opd {op : Nat} {A B C D : Int} (k : Nat) (hk : k < 4) (ho : opsN op ≤ k) (h0 : opd A B C D k ≠ 0) : restB op A B C D = false := by
  rw [← Bool.not_eq_true]
  simp only [restB, Bool.and_eq_true, Bool.or_eq_true, decide_eq_true_eq, beq_iff_eq]
  rintro ⟨⟨⟨b0, b1⟩, b2⟩, b3⟩
  have : k = 0 ∨ k = 1 ∨ k = 2 ∨ k = 3 := by omega
  rcases this with rfl | rfl | rfl | rfl <;> simp only [opd, List.getD_cons_zero, List.getD_cons_succ] at h0 <;> omega
theorem valid_of_rest {op : Nat} {A B C D : Int} (h : op < 35) (hr : restB op A B C D = true) : validB op A B C D = formB op A B C D := by
  simp [validB, h, hr]
theorem valid_not_rest {op : Nat} {A B C D : Int} (hr : restB op A B C D = false) : validB op A B C D = false := by
  simp [validB, hr]

set_option maxRecDepth 100000 in
set_option maxHeartbeats 4000000 in
theorem valid_any (op : Nat) (hx : op < 256) (A B C D : Int) (w : World) (hT : Tab w) :
    Calls Tryd.prog 24 #[.agg #[.int .u8 op, .int .i64 A, .int .i64 B, .int .i64 C, .int .i64 D]] w fun e w' => e = .returned (.bool (validB op A B C D)) ∧ Below w.heap.size w w' := by
  by_cases h35 : op < 35
  · obtain ⟨h1, h2⟩ := hT op h35
    clear hT h1
    have hB : 0 < w.heap.size := block_lt_of_cell h2
    go_enter Tryd.func24, Tryd.ntmps24
    go_wp2
    have i0 : ∀ w, (Instr.index 61 (.agg #[.int .i64 A, .int .i64 B, .int .i64 C, .int .i64 D]) (.int .i64 0)).run Tryd.prog w = .ok (.int .i64 A) w := fun _ => by kernel_rfl
    have i1 : ∀ w, (Instr.index 61 (.agg #[.int .i64 A, .int .i64 B, .int .i64 C, .int .i64 D]) (.int .i64 1)).run Tryd.prog w = .ok (.int .i64 B) w := fun _ => by kernel_rfl
    have i2 : ∀ w, (Instr.index 61 (.agg #[.int .i64 A, .int .i64 B, .int .i64 C, .int .i64 D]) (.int .i64 2)).run Tryd.prog w = .ok (.int .i64 C) w := fun _ => by kernel_rfl
    have i3 : ∀ w, (Instr.index 61 (.agg #[.int .i64 A, .int .i64 B, .int .i64 C, .int .i64 D]) (.int .i64 3)).run Tryd.prog w = .ok (.int .i64 D) w := fun _ => by kernel_rfl
    go_loop [17] (fun i => ∃ k : Nat, k ≤ 4 ∧ i = .int .i64 k ∧ Hid (∀ j, j < k → opsN op ≤ j → opd A B C D j = 0)) (fun i => 4 - (intOf i).toNat)
    case atStart => exact ⟨0, by omega, rfl, fun j hj => by omega⟩
    case round =>
      obtain ⟨k, hk, rfl, hz⟩ := hrel
      by_cases h4 : k = 4
      · subst h4
        have hv := Lib.hid (valid_of_rest h35 (opd_rest hz.out))
        clear hz h2 i0 i1 i2 i3
        have hcases : op = 0 ∨ op = 1 ∨ op = 2 ∨ op = 3 ∨ op = 4 ∨ op = 5 ∨ op = 6 ∨ op = 7 ∨ op = 8 ∨ op = 9 ∨ op = 10 ∨ op = 11 ∨ op = 12 ∨ op = 13 ∨ op = 14 ∨ op = 15 ∨ op = 16 ∨ op = 17 ∨ op = 18 ∨ op = 19 ∨ op = 20 ∨ op = 21 ∨ op = 22 ∨ op = 23 ∨ op = 24 ∨ op = 25 ∨ op = 26 ∨ op = 27 ∨ op = 28 ∨ op = 29 ∨ op = 30 ∨ op = 31 ∨ op = 32 ∨ op = 33 ∨ op = 34 := by omega
        clear h35 hx hB
        rcases hcases with rfl | rfl | rfl | rfl | rfl | rfl | rfl | rfl | rfl | rfl | rfl | rfl | rfl | rfl | rfl | rfl | rfl | rfl | rfl | rfl | rfl | rfl | rfl | rfl | rfl | rfl | rfl | rfl | rfl | rfl | rfl | rfl | rfl | rfl | rfl
        all_goals
          go_wp2_with (first
            | (go_at_call 37; refine (reg_any _ _).mono ?_; rintro e w' ⟨rfl, rfl⟩)
            | (go_at_call 39; refine (num_any _ _).mono ?_; rintro e w' ⟨rfl, rfl⟩)
            | (go_at_call 40; refine (idx_any _ _).mono ?_; rintro e w' ⟨rfl, rfl⟩)
            | (go_at_call 38; refine (opr_any _ _).mono ?_; rintro e w' ⟨rfl, rfl⟩))
          all_goals go_ret
          all_goals refine ⟨ret_bool ?_, (Below.refl _ _).alloc (Nat.le_refl _) _⟩
          all_goals rw [hv.out]
          all_goals first | (simp [formB, *]; done) | (simp [formB, *]; omega)
      · have h3 : k = 0 ∨ k = 1 ∨ k = 2 ∨ k = 3 := by omega
        by_cases ho : opsN op ≤ k
        · by_cases h0 : opd A B C D k = 0
          · have hz' : Hid (∀ j, j < k + 1 → opsN op ≤ j → opd A B C D j = 0) := fun j hj hoj => by
              by_cases e : j = k
              · rw [e]; exact h0
              · exact hz.out j (by omega) hoj
            clear hz
            rcases h3 with rfl | rfl | rfl | rfl
            all_goals simp only [opd, List.getD_cons_zero, List.getD_cons_succ] at h0
            all_goals subst h0
            all_goals go_wp2
            all_goals go_round
            all_goals first | exact ⟨_, by decide, by go_num, hz'⟩ | (simp [intOf]; done)
          · have hf := Lib.hid (valid_not_rest (rest_opd k (by omega) ho h0))
            clear hz
            rcases h3 with rfl | rfl | rfl | rfl
            all_goals simp only [opd, List.getD_cons_zero, List.getD_cons_succ] at h0
            all_goals have h0b := beq_eq_false_iff_ne.2 h0
            all_goals have h0c := bne_iff_ne.2 h0
            all_goals clear h0
            all_goals go_wp2
            all_goals go_ret
            all_goals exact ⟨ret_bool hf.out.symm, (Below.refl _ _).alloc (Nat.le_refl _) _⟩
        · have hz' : Hid (∀ j, j < k + 1 → opsN op ≤ j → opd A B C D j = 0) := fun j hj hoj => by
            by_cases e : j = k
            · omega
            · exact hz.out j (by omega) hoj
          clear hz
          rcases h3 with rfl | rfl | rfl | rfl
          all_goals go_wp2
          all_goals go_round
          all_goals first | exact ⟨_, by decide, by go_num, hz'⟩ | (simp [intOf]; done)
  · clear hT
    go_enter Tryd.func24, Tryd.ntmps24
    go_wp2
    go_ret
    exact ⟨ret_bool (by simp [validB, h35]), (Below.refl _ _).alloc (Nat.le_refl _) _⟩

end Go.Proofs.YthakiaicnhkfjaaDoor

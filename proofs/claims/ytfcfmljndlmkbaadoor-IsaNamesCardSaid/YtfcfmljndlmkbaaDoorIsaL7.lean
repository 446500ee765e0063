/-
  The walk of the law IsaNames.
-/
import Derived.Test.YtfcfmljndlmkbaaDoorIsaL4
namespace Go.Proofs.YtfcfmljndlmkbaaDoor
open Go.ChangeShapes Go.WideShapes Go.ChangeAt Go.RowKit Go.Sort

theorem shape_len (op : Nat) : (shapeL op).length = opsN op := by
  by_cases h35 : op < 35
  · rcases op_cases h35 with rfl | rfl | rfl | rfl | rfl | rfl | rfl | rfl | rfl | rfl | rfl | rfl | rfl | rfl | rfl | rfl | rfl | rfl | rfl | rfl | rfl | rfl | rfl | rfl | rfl | rfl | rfl | rfl | rfl | rfl | rfl | rfl | rfl | rfl | rfl <;> rfl
  · rw [shapeL_hi h35, opsN_hi h35]; rfl

theorem tests_of {op : Nat} : (op = 22 ∨ op = 23 ∨ op = 24 ∨ op = 25 ∨ op = 26 ∨ op = 27) ∨ (((op : Int) == 22) = false ∧ ((op : Int) == 23) = false ∧ ((op : Int) == 24) = false ∧ ((op : Int) == 25) = false ∧ ((op : Int) == 26) = false ∧ ((op : Int) == 27) = false ∧ jmpB op = false ∧ lndB op = false) := by
  by_cases h : op = 22 ∨ op = 23 ∨ op = 24 ∨ op = 25 ∨ op = 26 ∨ op = 27
  · exact .inl h
  · refine .inr ⟨?_, ?_, ?_, ?_, ?_, ?_, ?_, ?_⟩
    all_goals simp [jmpB, lndB]
    all_goals omega

set_option maxRecDepth 100000 in
set_option maxHeartbeats 1600000 in
theorem isaNames_walk (op : Nat) (hx : op < 256) (w : World) (hT : Tab w) :
    Calls Tryd.prog 9 #[.int .u8 op] w fun e w' => e = .returned (.bool true) ∧ Below w.heap.size w w' := by
  have hl := shape_len op
  go_enter Tryd.func9, Tryd.ntmps9
  go_wp2_with fail
  refine (awake21_any _ hT).mono ?_
  rintro e w1 ⟨rfl, q1⟩
  have hT1 := Lib.hid (hT.mono q1)
  clear hT
  go_wp2_with fail
  refine (shape_any op hx _).mono ?_
  rintro e w2 ⟨rfl, rfl⟩
  rcases tests_of (op := op) with h | ⟨t1, t2, t3, t4, t5, t6, t7, t8⟩
  · rcases h with rfl | rfl | rfl | rfl | rfl | rfl
    all_goals
      go_wp2_with fail
      refine (mnemonic_any _ hx _ hT1.out).mono ?_
      rintro e w2 ⟨rfl, rfl⟩
      go_wp2_with fail
      refine (refMnemonic_any _ hx _).mono ?_
      rintro e w2 ⟨rfl, hb2⟩
      have hT2 := Lib.hid (hT1.out.mono hb2)
      go_wp2_with fail
      refine (operands_any _ hx _ hT2.out).mono ?_
      rintro e w3 ⟨rfl, rfl⟩
      go_wp2_with fail
      refine (isJump_any _ hx _).mono ?_
      rintro e w3 ⟨rfl, rfl⟩
      go_wp2_with fail
      refine (isLanding_any _ hx _).mono ?_
      rintro e w3 ⟨rfl, rfl⟩
      go_wp2
      go_ret
      exact ⟨rfl, below_step q1 q1.size hb2⟩
  · go_wp2_with fail
    refine (mnemonic_any _ hx _ hT1.out).mono ?_
    rintro e w2 ⟨rfl, rfl⟩
    go_wp2_with fail
    refine (refMnemonic_any _ hx _).mono ?_
    rintro e w2 ⟨rfl, hb2⟩
    have hT2 := Lib.hid (hT1.out.mono hb2)
    go_wp2_with fail
    refine (operands_any _ hx _ hT2.out).mono ?_
    rintro e w3 ⟨rfl, rfl⟩
    go_wp2_with fail
    refine (isJump_any _ hx _).mono ?_
    rintro e w3 ⟨rfl, rfl⟩
    go_wp2_with fail
    refine (isLanding_any _ hx _).mono ?_
    rintro e w3 ⟨rfl, rfl⟩
    go_wp2
    go_ret
    exact ⟨rfl, below_step q1 q1.size hb2⟩

end Go.Proofs.YtfcfmljndlmkbaaDoor

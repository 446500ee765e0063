/-
  The contracts of asm.check, classes, operands and width.
-/
import Derived.Test.YtodiijoeeeeicaaDoorAsmB
import Derived.Test.YtodiijoeeeeicaaDoorAsmBs
namespace Go.Proofs.YtodiijoeeeeicaaDoor
open Go.ChangeShapes Go.WideShapes Go.ChangeAt Go.RowKit Go.Sort

/-- The error of code that has no form. -/
def checkA (l : List Ins) : Int := if 65536 < l.length then 5 else if l.all vIns = true then 0 else 3
theorem all_step {l : List Ins} {k : Nat} (h : k < l.length) : (l.drop k).all vIns = (vIns l[k] && (l.drop (k + 1)).all vIns) := by
  rw [List.drop_eq_getElem_cons h]; rfl
theorem checkA_zero {l : List Ins} (h : checkA l = 0) : l.length ≤ 65536 ∧ ∀ x ∈ l, vIns x = true := by
  unfold checkA at h
  split at h
  · cases h
  · split at h
    · rename_i h1 h2
      exact ⟨by omega, fun x hx => List.all_eq_true.1 h2 x hx⟩
    · cases h

set_option maxRecDepth 100000 in
set_option maxHeartbeats 400000 in
theorem check_any (l : List Ins) (A : Option Addr) (cap : Nat) (w : World) (hC : CodeAt w A l) (hY : Bytes l) (hT : Tab w) (hl : l.length ≤ 140737488355328) :
    Calls Tryd.prog 27 #[.slice A l.length cap] w fun e w' => e = .returned (.int .i64 (checkA l)) ∧ Below w.heap.size w w' := by
  have HC := Lib.hid hC
  have HT := Lib.hid hT
  clear hC hT
  go_enter Tryd.func27, Tryd.ntmps27
  by_cases hs : 65536 < l.length
  · have hR := Lib.hid (show checkA l = 5 from if_pos hs)
    go_wp2
    go_ret
    exact ⟨ret_i64 hR.out.symm, Below.refl _ _⟩
  · have hR := Lib.hid (show checkA l = if l.all vIns = true then 0 else 3 from if_neg hs)
    go_wp2
    go_loopw [10] (fun v wr => ∃ k : Nat, k ≤ l.length ∧ v = .int .i64 k ∧ Hid (l.all vIns = (l.drop k).all vIns) ∧ Below w.heap.size w wr) (fun v _ => l.length - (intOf v).toNat)
    case atStart => exact ⟨0, by omega, rfl, rfl, Below.refl _ _⟩
    case round =>
      obtain ⟨k, hk, rfl, hz, hb⟩ := hrel
      by_cases hin : k < l.length
      · have hz' := Lib.hid (hz.out.trans (all_step hin))
        obtain ⟨b, o, rfl, hi⟩ := (HC.out.mono hb).at_ hin
        have HT2 := Lib.hid (HT.out.mono hb)
        have hop := hY.at_ hin
        have hlt := hi.lt
        obtain ⟨c0, c1, c2, c3, c4⟩ := id hi
        generalize hx : l[k] = x at *
        have HV : Hid (∀ w1, Tab w1 → Calls Tryd.prog 20 #[.agg #[.int .u8 x.op, .int .i64 x.a, .int .i64 x.b, .int .i64 x.c, .int .i64 x.d]] w1 fun e w' => e = .returned (.bool (vIns x)) ∧ Below w1.heap.size w1 w') := fun w1 h1 => valid_any x.op hop x.a x.b x.c x.d w1 h1
        clear hz
        generalize vIns x = bv at *
        cases bv with
        | false =>
          have hR2 := Lib.hid (show checkA l = 3 by rw [hR.out, if_neg (by rw [hz'.out]; simp)])
          go_wp2_with (go_at_call 20; refine (HV.out _ (HT2.out.alloc _)).mono ?_; rintro e w2 ⟨rfl, hb2⟩)
          go_ret
          have q2 := below_step ((Below.refl _ _).alloc (Nat.le_refl _) _ : Below wr.heap.size wr (wr.alloc _)) (by simp) hb2
          exact ⟨ret_i64 hR2.out.symm, below_step hb hb.size q2⟩
        | true =>
          have hz2 := Lib.hid (show l.all vIns = (l.drop (k + 1)).all vIns by rw [hz'.out, Bool.true_and])
          go_wp2_with (go_at_call 20; refine (HV.out _ (HT2.out.alloc _)).mono ?_; rintro e w2 ⟨rfl, hb2⟩)
          have q2 := below_step ((Below.refl _ _).alloc (Nat.le_refl _) _ : Below wr.heap.size wr (wr.alloc _)) (by simp) hb2
          exact ⟨⟨k + 1, by omega, by go_num, hz2, below_step hb hb.size q2⟩, by simp [intOf]; omega⟩
      · have hz' := Lib.hid (show l.all vIns = true by rw [hz.out, List.drop_of_length_le (by omega)]; rfl)
        clear hz
        go_wp2
        go_ret
        exact ⟨ret_i64 (by rw [hR.out, if_pos hz'.out]), hb⟩

set_option maxRecDepth 100000 in
set_option maxHeartbeats 2000000 in
theorem classes_any (op : Nat) (_hx : op < 256) (w : World) :
    Calls Tryd.prog 30 #[.int .u8 op] w fun e w' => e = .returned (.string (bs (clsL op))) ∧ w = w' := by
  by_cases h35 : op < 35
  · rcases lt35 h35 with h | h | h | h | h | h | h | h | h | h | h | h | h | h | h | h | h | h | h | h | h | h | h | h | h | h | h | h | h | h | h | h | h | h | h <;> subst h
    all_goals
      go_enter Tryd.func30, Tryd.ntmps30
      go_wp2
      go_ret
      exact ⟨rfl, rfl⟩
  · have hR := Lib.hid (clsL_hi h35)
    go_enter Tryd.func30, Tryd.ntmps30
    go_wp2
    go_ret
    exact ⟨by rw [hR.out]; rfl, rfl⟩
theorem operandsA_any (op A B C D : Int) (w : World) :
    Calls Tryd.prog 31 #[.agg #[.int .u8 op, .int .i64 A, .int .i64 B, .int .i64 C, .int .i64 D]] w fun e w' => e = .returned (.agg #[.int .i64 A, .int .i64 B, .int .i64 C, .int .i64 D]) ∧ Below w.heap.size w w' := by
  go_enter Tryd.func31, Tryd.ntmps31
  go_wp2
  exact bodyPost_ret (v := .agg #[.int .i64 A, .int .i64 B, .int .i64 C, .int .i64 D]) (by simp [results, Tryd.results31, go_sem]) rfl ⟨rfl, two_box _ _ _⟩
theorem width_any (c : UInt8) (w : World) :
    Calls Tryd.prog 37 #[.int .u8 c.toNat] w fun e w' => e = .returned (.int .i64 (wid c)) ∧ w = w' := by
  have h1 : (c = 107) ↔ ((c.toNat : Int) = 107) := by rw [← UInt8.toNat_inj]; simp; omega
  have h2 : (c = 116) ↔ ((c.toNat : Int) = 116) := by rw [← UInt8.toNat_inj]; simp; omega
  have h3 : (c = 110) ↔ ((c.toNat : Int) = 110) := by rw [← UInt8.toNat_inj]; simp; omega
  have hw := Lib.hid (show wid c = if (c.toNat : Int) = 107 ∨ (c.toNat : Int) = 116 then 4 else if (c.toNat : Int) = 110 then 8 else 1 by unfold wid; simp only [h1, h2, h3])
  have hlt : (c.toNat : Int) < 256 := by have := c.toNat_lt; omega
  have h0 : (0 : Int) ≤ c.toNat := by omega
  clear h1 h2 h3
  generalize (c.toNat : Int) = n at *
  go_enter Tryd.func37, Tryd.ntmps37
  go_wp2
  all_goals go_ret
  all_goals refine ⟨ret_i64 ?_, rfl⟩
  all_goals rw [hw.out]
  all_goals simp_all

end Go.Proofs.YtodiijoeeeeicaaDoor

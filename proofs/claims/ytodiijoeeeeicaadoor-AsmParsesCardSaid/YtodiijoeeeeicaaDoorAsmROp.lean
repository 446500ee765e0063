/-
  The contract of the reference's operand.
-/
import Derived.Test.YtodiijoeeeeicaaDoorAsmRNu
namespace Go.Proofs.YtodiijoeeeeicaaDoor
open Go.ChangeShapes Go.WideShapes Go.ChangeAt Go.RowKit Go.Sort

theorem toL' (l : List UInt8) : (bs l).toList = l := by rw [ByteArray.toList_eq, data_bs]
theorem symO_hit {k : Nat} (h0 : 8 ≤ k) (h1 : k ≤ 23) : symO (symb (k : Int)) = some (k : Int) := by
  obtain ⟨i, rfl⟩ : ∃ i, k = i + 8 := ⟨k - 8, by omega⟩
  exact (sym_back (i := i) (by omega)).1
theorem symO_miss {l : List UInt8} (h : ∀ j : Nat, 8 ≤ j → j < 24 → symb (j : Int) ≠ l) : symO l = none := by
  cases hs : symO l with
  | none => rfl
  | some v =>
    exfalso
    obtain ⟨h8, h23, he⟩ := symO_some hs
    obtain ⟨j, rfl⟩ : ∃ j : Nat, v = j := ⟨v.toNat, by omega⟩
    exact h j (by omega) (by omega) he
set_option maxRecDepth 100000 in
set_option maxHeartbeats 2000000 in
theorem roperand_any (l : List UInt8) (c : UInt8) (hc : c = 114 ∨ c = 107 ∨ c = 110 ∨ c = 116 ∨ c = 101 ∨ c = 111) (w : World) (hl : l.length ≤ 4294967296) : Calls Tryd.prog 67 #[.string (bs l), .int .u8 c.toNat] w (RetNum (rdW c l) w) := by
  by_cases h114 : c = 114
  · subst h114
    clear hc
    cases l with
    | nil =>
      have hz : (bs []).size = 0 := rfl
      go_enter Tryd.func67, Tryd.ntmps67
      go_wp2_with fail
      go_ret2
      exact ⟨.inr ⟨rfl, 0, rfl⟩, rfl⟩
    | cons b r =>
      have hz : (bs (b :: r)).size = r.length + 1 := by rw [bs_size]; simp
      have h0 : 0 < (bs (b :: r)).size := by omega
      have hc0 : (bs (b :: r))[0]'h0 = b := by
        have := byte_at (bs (b :: r)) h0
        rw [data_bs] at this
        simpa using this.symm
      have r0 : (0 : Int) < ((bs (b :: r)).size : Int) := by omega
      have r1 : (1 : Int) ≤ ((bs (b :: r)).size : Int) := by omega
      by_cases hb : b = 114
      · subst hb
        have HR : Hid (rdW 114 (114 :: r) = numO r) := Lib.hid rfl
        by_cases hr : r = []
        · subst hr
          have e1 : ((bs [114]).size : Int) < 2 := by rw [hz]; decide
          go_enter Tryd.func67, Tryd.ntmps67
          go_wp2_with fail
          go_ret2
          exact ⟨.inr ⟨rfl, 0, rfl⟩, rfl⟩
        · have hr1 : 0 < r.length := List.length_pos_iff.2 hr
          have e1 : ¬ (r.length : Int) + 1 < 2 := by omega
          have HX := Lib.hid (show (bs (114 :: r)).extract 1 (r.length + 1) = bs r by rw [bs_ext, List.extract_eq_take_drop]; congr 1 <;> simp)
          have HNU := Lib.hid (rnumber_any r w (by simp at hl; omega))
          go_enter Tryd.func67, Tryd.ntmps67
          rw [HR.out]
          go_wp2_with fail
          rw [HX.out]
          refine HNU.out.mono ?_
          rintro e w2 ⟨he, rfl⟩
          rcases he with ⟨v, hv, rfl⟩ | ⟨hv, z, rfl⟩
          · go_wp2_with fail
            go_ret2
            exact ⟨.inl ⟨v, hv, rfl⟩, rfl⟩
          · go_wp2_with fail
            go_ret2
            exact ⟨.inr ⟨hv, z, rfl⟩, rfl⟩
      · have HR : Hid (rdW 114 (b :: r) = none) := Lib.hid (show (if b = 114 then numO r else none) = none from if_neg hb)
        have hbn : ((b.toNat : Int) == 114) = false := by
          show ((b.toNat : Int) == ((114 : Nat) : Int)) = false
          rw [← u8_eq b 114 (by decide)]; exact beq_eq_false_iff_ne.2 hb
        have hbn2 : ((b.toNat : Int) != 114) = true := by unfold bne; rw [hbn]; rfl
        go_enter Tryd.func67, Tryd.ntmps67
        rw [HR.out]
        go_wp2_with fail
        all_goals
          go_ret2
          exact ⟨.inr ⟨rfl, 0, rfl⟩, rfl⟩
  by_cases h111 : c = 111
  · subst h111
    clear hc h114
    have HR : Hid (rdW 111 l = symO l) := Lib.hid rfl
    rw [show (((111 : UInt8).toNat : Nat) : Int) = 111 from rfl]
    go_enter Tryd.func67, Tryd.ntmps67
    rw [HR.out]
    go_wp2_with fail
    go_loop [6] (fun i => ∃ k : Nat, 8 ≤ k ∧ k ≤ 24 ∧ i = .int .i64 k ∧ Hid (∀ j : Nat, 8 ≤ j → j < k → symb (j : Int) ≠ l)) (fun i => 24 - (intOf i).toNat)
    case atStart => exact ⟨8, by omega, by omega, rfl, fun j h1 h2 => by omega⟩
    case round =>
      obtain ⟨k, h8, hk, rfl, hall⟩ := hrel
      by_cases hin : k < 24
      · have hm : (k : Int) % 256 = k := by omega
        have r1 : (k : Int) ≤ 23 := by omega
        have HS := Lib.hid (rsym_any k h8 (by omega) w)
        have HBE : Hid (symb (k : Int) = l ∨ symb (k : Int) ≠ l) := Lib.hid (Decidable.em _)
        have HIT := Lib.hid (symO_hit h8 (show k ≤ 23 by omega))
        go_wp2_with fail
        refine HS.out.mono ?_
        rintro e w2 ⟨rfl, rfl⟩
        rcases HBE.out with h | h
        · rw [h]
          rw [h] at HIT
          go_wp2_with fail
          go_ret2
          exact ⟨.inl ⟨_, HIT.out, rfl⟩, rfl⟩
        · have hne : ((bs (symb (k : Int))).toList == (bs l).toList) = false := by rw [toL', toL']; exact beq_eq_false_iff_ne.2 h
          have HN := Lib.hid (fun (j : Nat) (h1 : 8 ≤ j) (h2 : j < k + 1) => show symb (j : Int) ≠ l from by
            by_cases e : j = k
            · subst e; exact h
            · exact hall.out j h1 (by omega))
          clear h HBE HIT hall
          generalize bs (symb (k : Int)) = sx at *
          go_wp2_with fail
          exact ⟨⟨k + 1, by omega, by omega, by go_num, HN⟩, by simp [intOf]; omega⟩
      · obtain rfl : k = 24 := by omega
        have HM := Lib.hid (symO_miss hall.out)
        clear hall
        go_wp2_with fail
        go_ret2
        exact ⟨.inr ⟨HM.out, 0, rfl⟩, rfl⟩
  · have HR : Hid (rdW c l = numO l) := Lib.hid (by unfold rdW; rw [if_neg h111, if_neg h114])
    have HNU := Lib.hid (rnumber_any l w hl)
    have e1 : ((c.toNat : Int) == 114) = false := by
        show ((c.toNat : Int) == ((114 : Nat) : Int)) = false
        rw [← u8_eq c 114 (by decide)]; exact beq_eq_false_iff_ne.2 h114
    have e2 : ((c.toNat : Int) == 111) = false := by
        show ((c.toNat : Int) == ((111 : Nat) : Int)) = false
        rw [← u8_eq c 111 (by decide)]; exact beq_eq_false_iff_ne.2 h111
    go_enter Tryd.func67, Tryd.ntmps67
    rw [HR.out]
    go_wp2_with fail
    refine HNU.out.mono ?_
    rintro e w2 ⟨he, rfl⟩
    rcases he with ⟨v, hv, rfl⟩ | ⟨hv, z, rfl⟩
    · go_wp2_with fail
      go_ret2
      exact ⟨.inl ⟨v, hv, rfl⟩, rfl⟩
    · go_wp2_with fail
      go_ret2
      exact ⟨.inr ⟨hv, z, rfl⟩, rfl⟩

end Go.Proofs.YtodiijoeeeeicaaDoor

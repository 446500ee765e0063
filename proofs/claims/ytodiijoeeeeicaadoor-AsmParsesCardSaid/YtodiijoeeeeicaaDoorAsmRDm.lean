/-
  The contract of the reference's Decimal.
-/
import Derived.Test.YtodiijoeeeeicaaDoorAsmRSm
import Derived.Test.YtodiijoeeeeicaaDoorAsmOpd
namespace Go.Proofs.YtodiijoeeeeicaaDoor
open Go.ChangeShapes Go.WideShapes Go.ChangeAt Go.RowKit Go.Sort

/-- The digits of a number; none of nought. -/
def decD (m : Nat) : List UInt8 := if m = 0 then [] else Lib.decDigits m
theorem decD_step {m : Nat} (h : m ≠ 0) : decD m = decD (m / 10) ++ [UInt8.ofNat (48 + m % 10)] := by
  unfold decD
  rw [if_neg h]
  by_cases h10 : m < 10
  · rw [if_pos (by omega), dec_small h10, Nat.mod_eq_of_lt h10]; rfl
  · rw [if_neg (by omega), dec_big h10]
theorem dec_len : ∀ (k u : Nat), 0 < k → u < 10 ^ k → (Lib.decDigits u).length ≤ k
  | 0, _, h, _ => absurd h (by omega)
  | k + 1, u, _, h => by
    by_cases hu : u < 10
    · rw [dec_small hu]; simp
    · rw [dec_big hu, List.length_append]
      have hk : 0 < k := by
        rcases Nat.eq_zero_or_pos k with e | e
        · subst e; simp at h; omega
        · exact e
      have := dec_len k (u / 10) hk (by rw [Nat.pow_succ] at h; omega)
      simp; omega
theorem dec19 {u : Nat} (h : u ≤ 9223372036854775808) : (decD u).length ≤ 19 := by
  unfold decD
  split
  · simp
  · exact dec_len 19 u (by decide) (by omega)
theorem ten_sub (d : Nat) (h : d < 10) : (⟨#[48, 49, 50, 51, 52, 53, 54, 55, 56, 57]⟩ : ByteArray).extract d (d + 1) = bs [UInt8.ofNat (48 + d)] := by
  rcases (show d = 0 ∨ d = 1 ∨ d = 2 ∨ d = 3 ∨ d = 4 ∨ d = 5 ∨ d = 6 ∨ d = 7 ∨ d = 8 ∨ d = 9 by omega) with h | h | h | h | h | h | h | h | h | h <;> (subst h; decide +kernel)
theorem dec_cut (u : Nat) : Lib.decDigits u = decD (u / 10) ++ [UInt8.ofNat (48 + u % 10)] := by
  by_cases h : u < 10
  · rw [dec_small h, show u / 10 = 0 by omega, Nat.mod_eq_of_lt h]; rfl
  · unfold decD
    rw [dec_big h, if_neg (by omega)]
theorem itoa_neg {u : Nat} (h : 0 < u) : Lib.itoa (-(u : Int)) = 45 :: decD u := by
  unfold Lib.itoa decD
  rw [if_pos (by omega), if_neg (by omega)]
  congr 1
  simp
set_option maxRecDepth 100000 in
set_option maxHeartbeats 1000000 in
theorem rdec_any (v : Int) (w : World) (hv : -9223372036854775808 ≤ v ∧ v ≤ 9223372036854775807) :
    Calls Tryd.prog 61 #[.int .i64 v] w fun e w' => e = .returned (.string (bs (Lib.itoa v))) ∧ w = w' := by
  by_cases hn : v < 0
  · obtain ⟨u, rfl⟩ : ∃ u : Nat, v = -(u : Int) := ⟨v.natAbs, by omega⟩
    have HU := Lib.hid (show 0 < u ∧ u ≤ 9223372036854775808 by omega)
    go_enter Tryd.func61, Tryd.ntmps61
    go_wp2_with fail
    clear hn hv
    go_loop [0, 3] (fun n s => ∃ (m : Nat) (q : List UInt8), m ≤ 9223372036854775808 ∧ n = .int .i64 (-(m : Int)) ∧ s = .string (bs q) ∧ Hid (decD u = decD m ++ q) ∧ q.length + (decD m).length ≤ 19) (fun n _ => (-(intOf n)).toNat)
    case atStart => exact ⟨u, [], HU.out.2, rfl, rfl, Lib.hid (by simp), by simp; exact dec19 HU.out.2⟩
    case round =>
      obtain ⟨m, q, hm, rfl, rfl, he, hql⟩ := hrel
      by_cases h0 : m = 0
      · subst h0
        have hz := bs_size q
        have h45 : (⟨#[45]⟩ : ByteArray).size = 1 := rfl
        have hcc : ¬ 9223372036854775807 < 1 + (bs q).size := by omega
        have h0u := HU.out.1
        have HR := Lib.hid (show (⟨#[45]⟩ : ByteArray) ++ bs q = bs (Lib.itoa (-(u : Int))) by
          rw [itoa_neg HU.out.1, he.out]; exact bs_app [45] q)
        go_wp2_with fail
        rw [HR.out]
        go_ret
        exact ⟨rfl, rfl⟩
      · have r1 : 0 < m := by omega
        have r2 : (0 : Int) ≤ (m : Int) % 10 := by omega
        have r3 : (m : Int) % 10 ≤ (m : Int) % 10 + 1 := by omega
        have r4 : (m : Int) % 10 + 1 ≤ 10 := by omega
        have r5 : ((m : Int) % 10).toNat = m % 10 := by omega
        have r6 : ((m : Int) % 10 + 1).toNat = m % 10 + 1 := by omega
        have hT := Lib.hid (ten_sub (m % 10) (by omega))
        have hz := bs_size q
        have HDS := Lib.hid (decD_step (show m ≠ 0 by omega))
        have HDL := Lib.hid (show (decD m).length = (decD (m / 10)).length + 1 by rw [HDS.out]; simp)
        go_wp2_with fail
        rw [hT.out]
        refine ⟨⟨m / 10, UInt8.ofNat (48 + m % 10) :: q, by omega, by push_cast; rfl, by rw [show UInt8.ofNat (48 + m % 10) :: q = [UInt8.ofNat (48 + m % 10)] ++ q from rfl, bs_app], Lib.hid (by rw [he.out, HDS.out]; simp), ?_⟩, ?_⟩
        · have := HDL.out
          simp; omega
        · simp [intOf]; omega
  · obtain ⟨u, rfl⟩ : ∃ u : Nat, v = (u : Int) := ⟨v.natAbs, by omega⟩
    have HU := Lib.hid (show u ≤ 9223372036854775807 by omega)
    have HR := Lib.hid (show Lib.itoa (u : Int) = Lib.decDigits u by unfold Lib.itoa; rw [if_neg (by omega)]; simp)
    have r2 : (0 : Int) ≤ (u : Int) % 10 := by omega
    have r3 : (u : Int) % 10 ≤ (u : Int) % 10 + 1 := by omega
    have r4 : (u : Int) % 10 + 1 ≤ 10 := by omega
    have r5 : ((u : Int) % 10).toNat = u % 10 := by omega
    have r6 : ((u : Int) % 10 + 1).toNat = u % 10 + 1 := by omega
    have hT := Lib.hid (ten_sub (u % 10) (by omega))
    have r0 : ¬ (u : Int) < 0 := by omega
    go_enter Tryd.func61, Tryd.ntmps61
    clear hn hv
    go_wp2_with fail
    rw [hT.out]
    have H0 := Lib.hid (show Lib.decDigits u = decD (u / 10) ++ [UInt8.ofNat (48 + u % 10)] from dec_cut u)
    have H1 := Lib.hid (show (decD (u / 10)).length + 1 ≤ 19 by
      have h19 := dec_len 19 u (by decide) (by have := HU.out; omega)
      rw [H0.out] at h19; simpa using h19)
    clear r2 r3 r4 r5 r6 r0
    go_loop [0, 5] (fun n s => ∃ (m : Nat) (q : List UInt8), m ≤ 9223372036854775808 ∧ n = .int .i64 (m : Int) ∧ s = .string (bs q) ∧ Hid (Lib.decDigits u = decD (m / 10) ++ q) ∧ q.length + (decD (m / 10)).length ≤ 19) (fun n _ => (intOf n).toNat)
    case atStart => exact ⟨u, [UInt8.ofNat (48 + u % 10)], by have := HU.out; omega, rfl, rfl, H0, by have := H1.out; simp; omega⟩
    case round =>
      obtain ⟨m, q, hm, rfl, rfl, he, hql⟩ := hrel
      by_cases h0 : m < 10
      · have r1 : ¬ (10 : Int) ≤ m := by omega
        have HE := Lib.hid (show Lib.decDigits u = q by rw [he.out, show m / 10 = 0 by omega]; rfl)
        go_wp2_with fail
        go_ret
        exact ⟨by rw [HR.out, HE.out]; rfl, rfl⟩
      · have r1 : (10 : Int) ≤ m := by omega
        have r2 : (0 : Int) ≤ (m : Int) / 10 % 10 := by omega
        have r3 : (m : Int) / 10 % 10 ≤ (m : Int) / 10 % 10 + 1 := by omega
        have r4 : (m : Int) / 10 % 10 + 1 ≤ 10 := by omega
        have r5 : ((m : Int) / 10 % 10).toNat = m / 10 % 10 := by omega
        have r6 : ((m : Int) / 10 % 10 + 1).toNat = m / 10 % 10 + 1 := by omega
        have hT := Lib.hid (ten_sub (m / 10 % 10) (by omega))
        have hz := bs_size q
        have HDS := Lib.hid (decD_step (show m / 10 ≠ 0 by omega))
        have HDL := Lib.hid (show (decD (m / 10)).length = (decD (m / 10 / 10)).length + 1 by rw [HDS.out]; simp)
        go_wp2_with fail
        rw [hT.out]
        refine ⟨⟨m / 10, UInt8.ofNat (48 + m / 10 % 10) :: q, by omega, by push_cast; rfl, by rw [show UInt8.ofNat (48 + m / 10 % 10) :: q = [UInt8.ofNat (48 + m / 10 % 10)] ++ q from rfl, bs_app], Lib.hid (by rw [he.out, HDS.out]; simp), ?_⟩, ?_⟩
        · have := HDL.out
          simp; omega
        · simp [intOf]; omega

end Go.Proofs.YtodiijoeeeeicaaDoor

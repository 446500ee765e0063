/-
  Decimal numerals, plainly: what strconv's Itoa writes, its Atoi reads; which texts are numerals.
-/
import Derived.Test.YtodiijoeeeeicaaDoorChecked
import Derived.Lib.AtoiAllCases
import Derived.Lib.ItoaLen
import Derived.Lib.ItoaMem
namespace Go.Proofs.YtodiijoeeeeicaaDoor
open Go.Lib

def digB (b : UInt8) : Bool := decide (48 ≤ b.toNat) && decide (b.toNat ≤ 57)
theorem digB_iff {b : UInt8} : digB b = true ↔ 48 ≤ b.toNat ∧ b.toNat ≤ 57 := by unfold digB; simp
theorem dig_ofNat {d : Nat} (h : d < 10) : (UInt8.ofNat (48 + d)).toNat = 48 + d := by
  rw [UInt8.toNat_ofNat']; omega
theorem dig_back {b : UInt8} (h : digB b = true) : UInt8.ofNat (48 + (b.toNat - 48)) = b := by
  rw [digB_iff] at h
  apply UInt8.toNat_inj.1
  rw [dig_ofNat (by omega)]; omega
theorem dec_small {u : Nat} (h : u < 10) : decDigits u = [UInt8.ofNat (48 + u)] := by rw [decDigits, dif_pos h]
theorem dec_big {u : Nat} (h : ¬ u < 10) : decDigits u = decDigits (u / 10) ++ [UInt8.ofNat (48 + u % 10)] := by rw [decDigits, dif_neg h]
theorem dec_dig (u : Nat) : ∀ b ∈ decDigits u, digB b = true := by
  induction u using Nat.strongRecOn with
  | _ u ih =>
    by_cases h : u < 10
    · rw [dec_small h]
      intro b hb
      rw [List.mem_singleton.1 hb, digB_iff, dig_ofNat h]; omega
    · rw [dec_big h]
      intro b hb
      rcases List.mem_append.1 hb with hb | hb
      · exact ih _ (by omega) b hb
      · rw [List.mem_singleton.1 hb, digB_iff, dig_ofNat (by omega)]; omega
theorem dec_ne (u : Nat) : decDigits u ≠ [] := by
  by_cases h : u < 10
  · rw [dec_small h]; simp
  · rw [dec_big h]; simp

/-- The number that digits spell. -/
def valD (l : List UInt8) : Nat := l.foldl (fun a b => a * 10 + (b.toNat - 48)) 0
theorem valD_snoc (l : List UInt8) (b : UInt8) : valD (l ++ [b]) = valD l * 10 + (b.toNat - 48) := by unfold valD; rw [List.foldl_append]; rfl
theorem valD_dec (u : Nat) : valD (decDigits u) = u := by
  induction u using Nat.strongRecOn with
  | _ u ih =>
    by_cases h : u < 10
    · rw [dec_small h]
      show 0 * 10 + ((UInt8.ofNat (48 + u)).toNat - 48) = u
      rw [dig_ofNat h]; omega
    · rw [dec_big h, valD_snoc, ih _ (by omega), dig_ofNat (by omega)]; omega
/-- Digits without a leading nought. -/
def canD (l : List UInt8) : Bool := !l.isEmpty && l.all digB && (decide (l.length = 1) || l.head? != some 48)
theorem dec_head (u : Nat) : u < 10 ∨ (decDigits u).head? ≠ some 48 := by
  induction u using Nat.strongRecOn with
  | _ u ih =>
    by_cases h : u < 10
    · exact .inl h
    · right
      rw [dec_big h]
      have hne := dec_ne (u / 10)
      rcases ih (u / 10) (by omega) with h2 | h2
      · rw [dec_small h2]
        intro e
        have e2 : UInt8.ofNat (48 + u / 10) = 48 := Option.some.inj e
        have := congrArg UInt8.toNat e2
        rw [dig_ofNat h2] at this
        have h48 : (48 : UInt8).toNat = 48 := rfl
        omega
      · cases hd : decDigits (u / 10) with
        | nil => exact absurd hd hne
        | cons a r => rw [hd] at h2; simpa using h2
theorem dec_can (u : Nat) : canD (decDigits u) = true := by
  unfold canD
  simp only [Bool.and_eq_true, Bool.or_eq_true, decide_eq_true_eq]
  refine ⟨⟨by cases h : decDigits u with
    | nil => exact absurd h (dec_ne u)
    | cons a r => rfl, List.all_eq_true.2 (dec_dig u)⟩, ?_⟩
  rcases dec_head u with h | h
  · left; rw [dec_small h]; rfl
  · right; simpa using h
theorem can_dec : ∀ (n : Nat) (l : List UInt8), l.length ≤ n → canD l = true → decDigits (valD l) = l
  | 0, l, hn, h => by
    have : l = [] := List.length_eq_zero_iff.1 (by omega)
    subst this; simp [canD] at h
  | n + 1, l, hn, h => by
    unfold canD at h
    simp only [Bool.and_eq_true, Bool.or_eq_true, decide_eq_true_eq] at h
    obtain ⟨⟨h1, h2⟩, h3⟩ := h
    have hne : l ≠ [] := by cases l with
      | nil => simp at h1
      | cons a r => simp
    obtain ⟨r, b, rfl⟩ : ∃ r b, l = r ++ [b] := ⟨l.dropLast, l.getLast hne, (List.dropLast_concat_getLast hne).symm⟩
    rw [List.all_append, Bool.and_eq_true] at h2
    have hb : digB b = true := by simpa using h2.2
    have hb' := digB_iff.1 hb
    rw [valD_snoc]
    cases hr : r with
    | nil =>
      have e : valD [] = 0 := rfl
      rw [e, Nat.zero_mul, Nat.zero_add, dec_small (by omega), dig_back hb]; rfl
    | cons a q =>
      have h3' : (r ++ [b]).head? ≠ some 48 := by
        rcases h3 with h3 | h3
        · rw [hr] at h3; simp at h3
        · simpa using h3
      have hra : r.head? ≠ some 48 := by rw [hr] at h3' ⊢; simpa using h3'
      have hcr : canD r = true := by
        unfold canD
        simp only [Bool.and_eq_true, Bool.or_eq_true, decide_eq_true_eq]
        exact ⟨⟨by rw [hr]; rfl, h2.1⟩, .inr (by simpa using hra)⟩
      have ih := can_dec n r (by simp at hn; omega) hcr
      have hpos : 1 ≤ valD r := by
        rcases Nat.eq_zero_or_pos (valD r) with h0 | h0
        · rw [h0, dec_small (by omega)] at ih
          rw [← ih] at hra
          exact absurd rfl hra
        · exact h0
      rw [← hr, dec_big (by omega), show (valD r * 10 + (b.toNat - 48)) / 10 = valD r by omega, show (valD r * 10 + (b.toNat - 48)) % 10 = b.toNat - 48 by omega, ih, dig_back hb]

/-! ### Atoi reads what Itoa writes -/
theorem pu_append (l : List UInt8) (c : UInt8) : ∀ (acc a : Nat), parseUint10 acc l = .ok a → parseUint10 acc (l ++ [c]) = parseUint10 a [c] := by
  induction l with
  | nil => intro acc a h; simp only [parseUint10] at h; cases h; rfl
  | cons b r ih =>
    intro acc a h
    rw [List.cons_append]
    rw [parseUint10] at h ⊢
    split at h
    · rename_i h1
      rw [if_pos h1]
      split at h
      · cases h
      · rename_i h2
        rw [if_neg h2]
        split at h
        · cases h
        · rename_i h3
          rw [if_neg h3]
          exact ih _ _ h
    · cases h
theorem pu_dec (u : Nat) : u < 18446744073709551616 → parseUint10 0 (decDigits u) = .ok u := by
  induction u using Nat.strongRecOn with
  | _ u ih =>
    intro hu
    have one : ∀ (a d : Nat), d < 10 → a * 10 + d = u → parseUint10 a [UInt8.ofNat (48 + d)] = .ok u := fun a d hd e => by
      rw [parseUint10, dig_ofNat hd, if_pos ⟨by omega, by omega⟩, if_neg (by omega), if_neg (by omega)]
      rw [parseUint10]
      congr 1
      omega
    by_cases h : u < 10
    · rw [dec_small h]; exact one 0 u h (by omega)
    · rw [dec_big h, pu_append _ _ _ _ (ih (u / 10) (by omega) (by omega))]
      exact one _ _ (by omega) (by omega)
theorem pm_dec {u : Nat} (hu : u < 18446744073709551616) : parseMag (decDigits u) = .ok u := by
  unfold parseMag; rw [if_neg (dec_ne u), pu_dec u hu]
theorem atoi_itoa {v : Int} (h0 : -9223372036854775808 ≤ v) (h1 : v ≤ 9223372036854775807) : atoiAll (itoa v) = .ok v := by
  by_cases hv : v < 0
  · obtain ⟨n, rfl⟩ : ∃ n : Nat, v = -(n : Int) := ⟨v.natAbs, by omega⟩
    rw [itoa_neg n (by omega), atoiAll_minus, pm_dec (by omega)]
    unfold signed
    dsimp only
    first
      | rw [if_neg (by omega)]
      | (split <;> first | omega | rfl)
  · obtain ⟨n, rfl⟩ : ∃ n : Nat, v = (n : Int) := ⟨v.toNat, by omega⟩
    rw [itoa_nonneg]
    cases hd : decDigits n with
    | nil => exact absurd hd (dec_ne n)
    | cons c r =>
      have hc := digB_iff.1 (dec_dig n c (by rw [hd]; simp))
      rw [atoiAll_plain c r (by omega) (by omega), ← hd, pm_dec (by omega)]
      unfold signless
      dsimp only
      first
        | rw [if_neg (by omega)]
        | (split <;> first | omega | rfl)

/-- The number of a numeral. -/
def numO (l : List UInt8) : Option Int := match atoiAll l with | .ok v => if itoa v = l then some v else none | _ => none
theorem numO_itoa {v : Int} (h0 : -9223372036854775808 ≤ v) (h1 : v ≤ 9223372036854775807) : numO (itoa v) = some v := by
  unfold numO; rw [atoi_itoa h0 h1]; simp
theorem numO_some {l : List UInt8} {v : Int} (h : numO l = some v) : itoa v = l ∧ -9223372036854775808 ≤ v ∧ v ≤ 9223372036854775807 := by
  unfold numO at h
  split at h
  · rename_i v' hv
    split at h
    · rename_i he
      cases h
      exact ⟨he, atoiAll_bounds hv⟩
    · cases h
  · cases h
theorem numO_iff {l : List UInt8} {v : Int} : numO l = some v ↔ itoa v = l ∧ -9223372036854775808 ≤ v ∧ v ≤ 9223372036854775807 :=
  ⟨numO_some, fun ⟨h1, h2, h3⟩ => by rw [← h1]; exact numO_itoa h2 h3⟩
theorem itoa_dig (v : Int) : ∀ b ∈ itoa v, digB b = true ∨ b = 45 := by
  intro b hb
  unfold itoa at hb
  split at hb
  · rcases List.mem_cons.1 hb with h | h
    · exact .inr h
    · exact .inl (dec_dig _ b h)
  · exact .inl (dec_dig _ b hb)
theorem itoa_ne (v : Int) : itoa v ≠ [] := by
  unfold itoa
  split
  · simp
  · exact dec_ne _
/-- Which texts are numerals. -/
theorem numO_neg {l : List UInt8} : numO (45 :: l) = if canD l = true ∧ valD l ≠ 0 ∧ valD l ≤ 9223372036854775808 then some (-(valD l : Int)) else none := by
  by_cases h : canD l = true ∧ valD l ≠ 0 ∧ valD l ≤ 9223372036854775808
  · rw [if_pos h, numO_iff]
    refine ⟨?_, by omega, by omega⟩
    rw [itoa_neg _ (by omega), can_dec _ l (Nat.le_refl _) h.1]
  · rw [if_neg h]
    cases hn : numO (45 :: l) with
    | none => rfl
    | some v =>
      exfalso
      obtain ⟨h1, h2, h3⟩ := numO_some hn
      unfold itoa at h1
      split at h1
      · rename_i hv
        have e := (List.cons.inj h1).2
        apply h
        rw [← e, valD_dec]
        exact ⟨dec_can _, by omega, by omega⟩
      · have := dec_dig v.toNat 45 (by rw [h1]; simp)
        simp [digB] at this
theorem numO_pos {c : UInt8} {l : List UInt8} (hc : c ≠ 45) : numO (c :: l) = if canD (c :: l) = true ∧ valD (c :: l) ≤ 9223372036854775807 then some (valD (c :: l) : Int) else none := by
  by_cases h : canD (c :: l) = true ∧ valD (c :: l) ≤ 9223372036854775807
  · rw [if_pos h, numO_iff]
    refine ⟨?_, by omega, by omega⟩
    rw [itoa_nonneg, can_dec _ (c :: l) (Nat.le_refl _) h.1]
  · rw [if_neg h]
    cases hn : numO (c :: l) with
    | none => rfl
    | some v =>
      exfalso
      obtain ⟨h1, h2, h3⟩ := numO_some hn
      unfold itoa at h1
      split at h1
      · exact hc (List.cons.inj h1).1.symm
      · apply h
        rw [← h1, valD_dec]
        exact ⟨dec_can _, by omega⟩
theorem numO_nil : numO [] = none := rfl

end Go.Proofs.YtodiijoeeeeicaaDoor

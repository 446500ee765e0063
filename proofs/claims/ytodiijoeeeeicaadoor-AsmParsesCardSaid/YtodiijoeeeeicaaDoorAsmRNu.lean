/-
  The contract of the reference's number.
-/
import Derived.Test.YtodiijoeeeeicaaDoorAsmRFm
import Derived.Test.YtodiijoeeeeicaaDoorAsmCpr
namespace Go.Proofs.YtodiijoeeeeicaaDoor
open Go.ChangeShapes Go.WideShapes Go.ChangeAt Go.RowKit Go.Sort

def numF (ng : Bool) (d : List UInt8) : Option Int := if canD d = true ∧ (ng = true → valD d ≠ 0) ∧ valD d ≤ (if ng = true then 9223372036854775808 else 9223372036854775807) then some (if ng = true then -(valD d : Int) else (valD d : Int)) else none
theorem numO_cons (c : UInt8) (r : List UInt8) : numO (c :: r) = if c = 45 then numF true r else numF false (c :: r) := by
  by_cases h : c = 45
  · subst h
    rw [if_pos rfl, numO_neg]
    unfold numF
    simp
  · rw [if_neg h, numO_pos h]
    unfold numF
    simp
theorem numF_long {ng : Bool} {d : List UInt8} (h : 19 < d.length) : numF ng d = none := by
  unfold numF
  rw [if_neg]
  rintro ⟨h1, _, h3⟩
  have hd := can_dec _ d (Nat.le_refl _) h1
  have : ¬ valD d < 10 ^ 19 := fun h4 => by
    have := dec_len 19 (valD d) (by decide) h4
    rw [hd] at this
    omega
  have h5 : valD d ≤ 9223372036854775808 := by split at h3 <;> omega
  omega
theorem numF_bad {ng : Bool} {d : List UInt8} {k : Nat} {c : UInt8} (h : d[k]? = some c) (hc : digB c = false) : numF ng d = none := by
  unfold numF
  rw [if_neg]
  rintro ⟨h1, _⟩
  unfold canD at h1
  simp only [Bool.and_eq_true, List.all_eq_true] at h1
  have := h1.1.2 c (List.mem_of_getElem? h)
  rw [hc] at this; cases this
theorem numF_nil (ng : Bool) : numF ng [] = none := by unfold numF canD; simp
theorem valD_ten : ∀ (n : Nat) (l : List UInt8), l.length = n → (∀ b ∈ l, digB b = true) → valD l < 10 ^ n
  | 0, l, h, _ => by
    have : l = [] := List.length_eq_zero_iff.1 h
    subst this; decide
  | n + 1, l, h, hd => by
    have hne : l ≠ [] := fun e => by rw [e] at h; simp at h
    have e := List.dropLast_concat_getLast hne
    rw [← e, valD_snoc]
    have h1 := valD_ten n l.dropLast (by rw [List.length_dropLast]; omega) (fun b hb => hd b ((List.dropLast_sublist l).subset hb))
    have h2 := digB_iff.1 (hd _ (List.getLast_mem hne))
    rw [Nat.pow_succ]
    omega
/-- The number that the reference makes out of the digits. -/
def numW (ng : Bool) (d : List UInt8) : Int := if ng = true then wrap64 (-(valD d : Int)) else wrap64 (valD d : Int)
theorem numW_t (d : List UInt8) : numW true d = wrap64 (-(valD d : Int)) := if_pos rfl
theorem numW_f (d : List UInt8) : numW false d = wrap64 (valD d : Int) := if_neg (by decide)
theorem wrap_neg (v : Nat) : wrap64 (IntKind.u64.wrap (-(v : Int))) = wrap64 (-(v : Int)) := by
  rw [IntKind.wrap_u64]
  unfold wrap64
  omega
theorem wrap64_fit (x : Int) : -9223372036854775808 ≤ wrap64 x ∧ wrap64 x ≤ 9223372036854775807 := by unfold wrap64; omega
theorem numW_fit (ng : Bool) (d : List UInt8) : -9223372036854775808 ≤ numW ng d ∧ numW ng d ≤ 9223372036854775807 := by
  unfold numW
  split <;> exact wrap64_fit _
theorem wrap64_id {x : Int} (h0 : -9223372036854775808 ≤ x) (h1 : x ≤ 9223372036854775807) : wrap64 x = x := by unfold wrap64; omega
theorem numF_W {ng : Bool} {d : List UInt8} {v : Int} (h : numF ng d = some v) : v = numW ng d := by
  unfold numF at h
  by_cases hc : canD d = true ∧ (ng = true → valD d ≠ 0) ∧ valD d ≤ (if ng = true then 9223372036854775808 else 9223372036854775807)
  · rw [if_pos hc] at h
    have hv := Option.some.inj h
    have h2 := hc.2.2
    unfold numW
    cases ng with
    | true =>
      rw [if_pos rfl] at h2 hv ⊢
      rw [wrap64_id (by omega) (by omega)]; exact hv.symm
    | false =>
      rw [if_neg (by decide)] at h2 hv ⊢
      rw [wrap64_id (by omega) (by omega)]; exact hv.symm
  · rw [if_neg hc] at h
    cases h
theorem num_yes {ng : Bool} {d l : List UInt8} (h : Lib.itoa (numW ng d) = l) : numO l = some (numW ng d) := numO_iff.2 ⟨h, numW_fit ng d⟩
theorem num_no {ng : Bool} {d l : List UInt8} (hl : numO l = numF ng d) (h : Lib.itoa (numW ng d) ≠ l) : numO l = none := by
  cases hn : numO l with
  | none => rfl
  | some v =>
    exfalso
    have h1 := numF_W (hl.symm.trans hn)
    subst h1
    exact h (numO_some hn).1
def RetNum (o : Option Int) (w : World) (e : Ending) (w' : World) : Prop := ((∃ v, o = some v ∧ e = .returned (.tuple #[.int .i64 v, .bool true])) ∨ (o = none ∧ ∃ z, e = .returned (.tuple #[.int .i64 z, .bool false]))) ∧ w = w'
set_option maxRecDepth 100000 in
set_option maxHeartbeats 2000000 in
theorem rnumber_any (l : List UInt8) (w : World) (hl : l.length ≤ 4294967296) : Calls Tryd.prog 78 #[.string (bs l)] w (RetNum (numO l) w) := by
  cases l with
  | nil =>
    have hz : (bs []).size = 0 := rfl
    go_enter Tryd.func78, Tryd.ntmps78
    go_wp2_with fail
    go_ret2
    exact ⟨.inr ⟨numO_nil, 0, rfl⟩, rfl⟩
  | cons c r =>
    have hz := bs_size (c :: r)
    have hz' : (bs (c :: r)).size = r.length + 1 := by rw [hz]; simp
    have h0 : 0 < (bs (c :: r)).size := by omega
    have hc0 : (bs (c :: r))[0]'h0 = c := by
      have := byte_at (bs (c :: r)) h0
      rw [data_bs] at this
      simpa using this.symm
    have r0 : (0 : Int) < ((bs (c :: r)).size : Int) := by omega
    obtain ⟨ng, hng⟩ : ∃ b, ((c.toNat : Int) == 45) = b := ⟨_, rfl⟩
    obtain ⟨fr, hfr⟩ : ∃ fr : Nat, (if ng = true then 1 else 0) = fr := ⟨_, rfl⟩
    obtain ⟨d, hd⟩ : ∃ d, (c :: r).drop fr = d := ⟨_, rfl⟩
    have HN := Lib.hid (show numO (c :: r) = numF ng d by
      rw [numO_cons, ← hd, ← hfr]
      cases ng with
      | true => rw [if_pos (show c = 45 from u8_ten (n := 45) (by decide) hng)]; rfl
      | false => rw [if_neg (show ¬ c = 45 from u8_nten (n := 45) (by decide) hng)]; rfl)
    have hf1 : fr ≤ 1 := by rw [← hfr]; split <;> omega
    have HD := Lib.hid hd
    have hdl : d.length + fr = r.length + 1 := by rw [← hd, List.length_drop]; simp; omega
    go_enter Tryd.func78, Tryd.ntmps78
    go_upto_if 15 with fail
    go_cut [4] from 5 to 15 (fun v wc => v = .int .i64 fr ∧ wc = w)
    case first =>
      cases ng with
      | true =>
        obtain rfl : fr = 1 := hfr.symm
        go_wp2_with fail
        go_meet
        exact ⟨rfl, rfl⟩
      | false =>
        obtain rfl : fr = 0 := hfr.symm
        go_wp2_with fail
        go_meet
        exact ⟨rfl, rfl⟩
    case rest =>
      obtain ⟨rfl, rfl⟩ := hcut
      by_cases hd0 : d.length = 0
      · have hE := Lib.hid (show numO (c :: r) = none by rw [HN.out, List.length_eq_zero_iff.1 hd0]; exact numF_nil ng)
        have e1 : (r.length : Int) + 1 = fr := by omega
        clear hfr hng hc0 hd
        go_wp2_with fail
        go_ret2
        exact ⟨.inr ⟨hE.out, 0, rfl⟩, rfl⟩
      by_cases h19 : 19 < d.length
      · have hE := Lib.hid (show numO (c :: r) = none by rw [HN.out]; exact numF_long h19)
        have e1 : ¬ (r.length : Int) + 1 = fr := by omega
        have e2 : (fr : Int) + 19 < (r.length : Int) + 1 := by omega
        clear hfr hng hc0 hd
        go_wp2_with fail
        go_ret2
        exact ⟨.inr ⟨hE.out, 0, rfl⟩, rfl⟩
      have e1 : ¬ (r.length : Int) + 1 = fr := by omega
      have e2 : ¬ (fr : Int) + 19 < (r.length : Int) + 1 := by omega
      have hd19 : d.length ≤ 19 := by omega
      have hd1 : 0 < d.length := by omega
      clear hc0 hd h19 hd0
      go_wp2_with fail
      go_loop [5, 6] (fun u i => ∃ (k v : Nat), k ≤ d.length ∧ i = .int .i64 ((fr + k : Nat) : Int) ∧ u = .int .u64 (v : Int) ∧ Hid (v = valD (d.take k)) ∧ Hid (∀ j x, j < k → d[j]? = some x → digB x = true)) (fun _ i => r.length + 1 - (intOf i).toNat)
      case atStart => exact ⟨0, 0, by omega, rfl, rfl, rfl, fun j x hj => by omega⟩
      case round =>
        obtain ⟨k, v, hk, rfl, rfl, HV, hall⟩ := hrel
        by_cases hin : k < d.length
        · have hin' : fr + k < (bs (c :: r)).size := by omega
          have r1 : (0 : Int) ≤ ((fr + k : Nat) : Int) := by omega
          have r2 : ((fr + k : Nat) : Int) < ((bs (c :: r)).size : Int) := by omega
          have r3 : ((fr + k : Nat) : Int) < (r.length : Int) + 1 := by omega
          obtain ⟨x, hx⟩ : ∃ x, (bs (c :: r))[fr + k]'hin' = x := ⟨_, rfl⟩
          have HLC := Lib.hid (show d[k]? = some x by
            rw [← HD.out, List.getElem?_drop]; exact byte_bs hin' hx)
          have HST := Lib.hid (show valD (d.take (k + 1)) = valD (d.take k) * 10 + (x.toNat - 48) by
            rw [List.take_add_one, HLC.out]; exact valD_snoc _ _)
          have hv18 : v < 10 ^ 18 := by
            rw [HV.out]
            have h1 := valD_ten k (d.take k) (by rw [List.length_take]; omega) (fun b hb => by
              obtain ⟨j, hj⟩ := List.getElem?_of_mem hb
              have hjk : j < k := by have := (List.getElem?_eq_some_iff.1 hj).1; simp at this; omega
              rw [List.getElem?_take_of_lt hjk] at hj
              exact hall.out j b hjk hj)
            exact Nat.lt_of_lt_of_le h1 (Nat.pow_le_pow_right (by decide) (by omega))
          generalize hq : fr + k = q at *
          by_cases c0 : x.toNat < 48
          · have HE := Lib.hid (show numO (c :: r) = none by rw [HN.out]; exact numF_bad HLC.out (show digB x = false by unfold digB; simp; omega))
            have c0' : (x.toNat : Int) < 48 := by omega
            go_wp2_with fail
            go_ret2
            exact ⟨.inr ⟨HE.out, 0, rfl⟩, rfl⟩
          by_cases c9 : 57 < x.toNat
          · have HE := Lib.hid (show numO (c :: r) = none by rw [HN.out]; exact numF_bad HLC.out (show digB x = false by unfold digB; simp; omega))
            have c0' : ¬ (x.toNat : Int) < 48 := by omega
            have c9' : 57 < (x.toNat : Int) := by omega
            go_wp2_with fail
            go_ret2
            exact ⟨.inr ⟨HE.out, 0, rfl⟩, rfl⟩
          have c0' : ¬ (x.toNat : Int) < 48 := by omega
          have c9' : ¬ 57 < (x.toNat : Int) := by omega
          go_wp2_with fail
          refine ⟨⟨k + 1, v * 10 + (x.toNat - 48), by omega, ?_, ?_, Lib.hid (by rw [HST.out, HV.out]), Lib.hid (fun j y hj hy => ?_)⟩, ?_⟩
          · rw [show fr + (k + 1) = q + 1 by omega]; rfl
          · rw [show (10 * (v : Int) + ((x.toNat : Int) - 48)) = ((v * 10 + (x.toNat - 48) : Nat) : Int) by omega]
          · by_cases e : j = k
            · subst e
              rw [HLC.out] at hy
              cases hy
              rw [digB_iff]; omega
            · exact hall.out j y (by omega) hy
          · simp [intOf]; omega
        · obtain rfl : k = d.length := by omega
          have hv : v = valD d := by rw [HV.out, List.take_length]
          have hv19 : v < 10 ^ 19 := by
            rw [hv]
            have h1 := valD_ten d.length d rfl (fun b hb => by
              obtain ⟨j, hj⟩ := List.getElem?_of_mem hb
              exact hall.out j b (List.getElem?_eq_some_iff.1 hj).1 hj)
            exact Nat.lt_of_lt_of_le h1 (Nat.pow_le_pow_right (by decide) hd19)
          rw [show fr + d.length = r.length + 1 by omega]
          have HV2 := Lib.hid hv
          have HDE := Lib.hid (rdec_any (numW ng d) wc (numW_fit ng d))
          clear hv HV hall hd1 hd19 hdl e1 e2
          have hbe : ∀ n : Int, Lib.itoa n = c :: r ∨ Lib.itoa n ≠ c :: r := fun n => Decidable.em _
          have HBE := Lib.hid (hbe (numW ng d))
          have HNO := Lib.hid HN.out
          clear hbe
          cases ng with
          | true =>
            obtain rfl : fr = 1 := hfr.symm
            have HW := Lib.hid (show wrap64 (-(v : Int)) = numW true d by rw [numW_t, HV2.out])
            clear HV2
            go_wp2_with fail
            rw [wrap_neg, HW.out]
            refine HDE.out.mono ?_
            rintro e w8 ⟨rfl, rfl⟩
            rcases HBE.out with h | h
            · rw [h]
              go_wp2_with fail
              go_ret2
              exact ⟨.inl ⟨_, num_yes h, rfl⟩, rfl⟩
            · have hne : ((bs (Lib.itoa (numW true d))).toList == (bs (c :: r)).toList) = false := by rw [ByteArray.toList_eq, ByteArray.toList_eq, data_bs, data_bs]; exact beq_eq_false_iff_ne.2 h
              have HR := Lib.hid (num_no HNO.out h)
              clear h
              generalize bs (Lib.itoa (numW true d)) = sx at *
              go_wp2_with fail
              go_ret2
              exact ⟨.inr ⟨HR.out, _, rfl⟩, rfl⟩
          | false =>
            obtain rfl : fr = 0 := hfr.symm
            have HW := Lib.hid (show wrap64 (v : Int) = numW false d by rw [numW_f, HV2.out])
            clear HV2
            go_wp2_with fail
            rw [HW.out]
            refine HDE.out.mono ?_
            rintro e w8 ⟨rfl, rfl⟩
            rcases HBE.out with h | h
            · rw [h]
              go_wp2_with fail
              go_ret2
              exact ⟨.inl ⟨_, num_yes h, rfl⟩, rfl⟩
            · have hne : ((bs (Lib.itoa (numW false d))).toList == (bs (c :: r)).toList) = false := by rw [ByteArray.toList_eq, ByteArray.toList_eq, data_bs, data_bs]; exact beq_eq_false_iff_ne.2 h
              have HR := Lib.hid (num_no HNO.out h)
              clear h
              generalize bs (Lib.itoa (numW false d)) = sx at *
              go_wp2_with fail
              go_ret2
              exact ⟨.inr ⟨HR.out, _, rfl⟩, rfl⟩

end Go.Proofs.YtodiijoeeeeicaaDoor

/-
  The contract of the reference's Name (layer 35).
-/
import Derived.Test.YtgokgcnalgpiiaaFunName2
namespace Go.Proofs.Ytgokgcnalgpiiaa
open Go.ChangeShapes Go.WideShapes Go.ChangeAt Go.RowKit Go.Sort

theorem bget {s : ByteArray} {k : Nat} (h : k < s.size) : s.toList[k]? = some s[k] := by
  rw [ByteArray.toList_eq]
  have h' : k < s.data.size := h
  rw [List.getElem?_eq_getElem (by simpa using h')]
  simp; rfl
theorem resL_cases' (s : ByteArray) : (inL resL s = true ∧ ((s.toList == ([108, 99, 111, 112, 121] : List UInt8)) = true ∨ ((s.toList == ([108, 99, 111, 112, 121] : List UInt8)) = false ∧ (s.toList == ([108, 115, 112, 105, 108, 108] : List UInt8)) = true) ∨ ((s.toList == ([108, 99, 111, 112, 121] : List UInt8)) = false ∧ (s.toList == ([108, 115, 112, 105, 108, 108] : List UInt8)) = false ∧ (s.toList == ([111, 117, 116] : List UInt8)) = true) ∨ ((s.toList == ([108, 99, 111, 112, 121] : List UInt8)) = false ∧ (s.toList == ([108, 115, 112, 105, 108, 108] : List UInt8)) = false ∧ (s.toList == ([111, 117, 116] : List UInt8)) = false ∧ (s.toList == ([103] : List UInt8)) = true))) ∨
    (inL resL s = false ∧ (s.toList == ([108, 99, 111, 112, 121] : List UInt8)) = false ∧ (s.toList == ([108, 115, 112, 105, 108, 108] : List UInt8)) = false ∧ (s.toList == ([111, 117, 116] : List UInt8)) = false ∧ (s.toList == ([103] : List UInt8)) = false) := by
  have hin : inL resL s = (decide (s = ⟨#[108, 99, 111, 112, 121]⟩) || decide (s = ⟨#[108, 115, 112, 105, 108, 108]⟩) || decide (s = ⟨#[111, 117, 116]⟩) || decide (s = ⟨#[103]⟩)) := by
    unfold inL resL
    simp only [List.any_cons, List.any_nil, Bool.or_false]
    have e : ∀ a b : ByteArray, decide (a = b) = decide (b = a) := fun a b => by rw [decide_eq_decide]; exact ⟨Eq.symm, Eq.symm⟩
    rw [e _ s, e _ s, e _ s, e _ s]
    simp only [Bool.or_assoc]
  rw [hin]
  have el : ∀ a : ByteArray, (s.toList == a.data.toList) = decide (s = a) := fun a => by rw [← eqS_eq, ByteArray.toList_eq a]
  have el1 := el ⟨#[108, 99, 111, 112, 121]⟩
  have el2 := el ⟨#[108, 115, 112, 105, 108, 108]⟩
  have el3 := el ⟨#[111, 117, 116]⟩
  have el4 := el ⟨#[103]⟩
  simp only at el1 el2 el3 el4
  rw [el1, el2, el3, el4]
  generalize decide (s = ⟨#[108, 99, 111, 112, 121]⟩) = a
  generalize decide (s = ⟨#[108, 115, 112, 105, 108, 108]⟩) = b
  generalize decide (s = ⟨#[111, 117, 116]⟩) = c
  generalize decide (s = ⟨#[103]⟩) = d
  cases a <;> cases b <;> cases c <;> cases d <;> simp

set_option maxRecDepth 100000 in
set_option maxHeartbeats 1000000 in
theorem rname_any (s : ByteArray) (w : World) (hs : s.size ≤ 9223372036854775807) :
    Calls Try.prog 44 #[.string s] w fun e w' => e = .returned (.bool (nameB s)) ∧ Below w.heap.size w w' := by
  rw [← rname_eq]
  by_cases h1 : s.size < 1
  · have hn := Lib.hid (show rnameB s = false by simp [rnameB]; omega)
    go_enter Try.func44, Try.ntmps44
    go_wp2_with fail
    go_ret
    exact ⟨ret_bool hn.out.symm, Below.refl _ _⟩
  by_cases h12 : 12 < s.size
  · have hn := Lib.hid (show rnameB s = false by simp [rnameB]; omega)
    go_enter Try.func44, Try.ntmps44
    go_wp2_with fail
    go_ret
    exact ⟨ret_bool hn.out.symm, Below.refl _ _⟩
  have e1 : decide (1 ≤ s.size) = true := by simp; omega
  have e2 : decide (s.size ≤ 12) = true := by simp; omega
  rcases resL_cases' s with ⟨hr, hc⟩ | ⟨hr, k1, k2, k3, k4⟩
  · have hn := Lib.hid (show rnameB s = false by simp [rnameB, hr])
    clear hr e1 e2
    rcases hc with k1 | ⟨k1, k2⟩ | ⟨k1, k2, k3⟩ | ⟨k1, k2, k3, k4⟩
    all_goals
      go_enter Try.func44, Try.ntmps44
      go_wp2_with fail
      go_ret
      exact ⟨ret_bool hn.out.symm, Below.refl _ _⟩
  have hn := Lib.hid (show rnameB s = (!inL kwL s && lowB s) by simp [rnameB, hr, e1, e2])
  clear hr e1 e2
  have hsl : s.toList.length = s.size := by rw [ByteArray.toList_eq]; simp
  go_enter Try.func44, Try.ntmps44
  go_wp2_with fail
  refine (rkeywords_any w).mono ?_
  rintro e w1 ⟨A1, c1, rfl, hst, hb1⟩
  have HST := Lib.hid hst
  clear hst k1 k2 k3 k4
  have hkl : kwL.length = 23 := rfl
  go_wp2_with fail
  go_loop [4] (fun i => ∃ k : Nat, k ≤ 23 ∧ i = .int .i64 k ∧ Hid (∀ (j : Nat) (x : ByteArray), j < k → kwL[j]? = some x → ¬ x = s)) (fun i => 23 - (intOf i).toNat)
  case atStart => exact ⟨0, by omega, rfl, fun j x hj => by omega⟩
  case round =>
    obtain ⟨k, hk, rfl, hz⟩ := hrel
    by_cases hin : k < 23
    · obtain ⟨b, o, rfl, hi⟩ := HST.out.at_ (k := k) (by omega)
      have hget : kwL[k]? = some (kwL[k]'(by omega)) := List.getElem?_eq_getElem _
      generalize kwL[k]'(by omega) = x at hi hget
      have HG := Lib.hid hget
      clear hget
      by_cases he : x = s
      · have hf := Lib.hid (show rnameB s = false by
          rw [hn.out]
          have : inL kwL s = true := by
            unfold inL; rw [List.any_eq_true]
            exact ⟨x, List.mem_of_getElem? HG.out, by simpa using he⟩
          rw [this]; rfl)
        have he' : (x.toList == s.toList) = true := eqS_iff.2 he
        clear he hz
        go_wp2_with fail
        go_ret
        exact ⟨ret_bool hf.out.symm, hb1⟩
      · have he' : (x.toList == s.toList) = false := by
          cases h : (x.toList == s.toList) with
          | false => rfl
          | true => exact absurd (eqS_iff.1 h) he
        have hz' := Lib.hid (fun (j : Nat) (y : ByteArray) (hj : j < k + 1) (hy : kwL[j]? = some y) => show ¬ y = s from by
          by_cases e : j = k
          · subst e; rw [HG.out] at hy; have := Option.some.inj hy; rw [← this]; exact he
          · exact hz.out j y (by omega) hy)
        clear he hz
        go_wp2_with fail
        exact ⟨⟨k + 1, by omega, by go_num, hz'⟩, by simp [intOf]; omega⟩
    · have hn2 := Lib.hid (show rnameB s = lowB s by
        rw [hn.out]
        have : inL kwL s = false := by
          unfold inL; rw [List.any_eq_false]
          intro x hx
          obtain ⟨j, hj⟩ := List.getElem?_of_mem hx
          have := hz.out j x (by have := (List.getElem?_eq_some_iff.1 hj).1; omega) hj
          simpa using this
        rw [this]; rfl)
      clear hz hn
      go_wp2_with fail
      go_loop [5] (fun i => ∃ k : Nat, k ≤ s.size ∧ i = .int .i64 k ∧ Hid (∀ (j : Nat) (c : UInt8), j < k → s.toList[j]? = some c → (97 ≤ c.toNat ∧ c.toNat ≤ 122))) (fun i => s.size - (intOf i).toNat)
      case atStart => exact ⟨0, by omega, rfl, fun j c hj => by omega⟩
      case round =>
        obtain ⟨k, hk, rfl, hz⟩ := hrel
        by_cases hin : k < s.size
        · have HG := Lib.hid (bget hin)
          by_cases hok : 97 ≤ s[k].toNat ∧ s[k].toNat ≤ 122
          · have hz' := Lib.hid (fun (j : Nat) (d : UInt8) (hj : j < k + 1) (hd : s.toList[j]? = some d) => show 97 ≤ d.toNat ∧ d.toNat ≤ 122 from by
              by_cases e : j = k
              · subst e; rw [HG.out] at hd; have := Option.some.inj hd; rw [← this]; exact hok
              · exact hz.out j d (by omega) hd)
            clear hz
            go_wp2_with fail
            exact ⟨⟨k + 1, by omega, by go_num, hz'⟩, by simp [intOf]; omega⟩
          · have hlow := Lib.hid (show rnameB s = false by
              rw [hn2.out]
              unfold lowB
              rw [List.all_eq_false]
              exact ⟨s[k], List.mem_of_getElem? HG.out, by simp; omega⟩)
            clear hz
            by_cases hlo : s[k].toNat < 97
            · go_wp2_with fail
              go_ret
              exact ⟨ret_bool hlow.out.symm, hb1⟩
            · have hhi : 122 < s[k].toNat := by omega
              go_wp2_with fail
              go_ret
              exact ⟨ret_bool hlow.out.symm, hb1⟩
        · have hlow := Lib.hid (show rnameB s = true by
            rw [hn2.out]
            unfold lowB
            rw [List.all_eq_true]
            intro c hc
            obtain ⟨j, hj⟩ := List.getElem?_of_mem hc
            have := hz.out j c (by have := (List.getElem?_eq_some_iff.1 hj).1; omega) hj
            simp; omega)
          clear hz
          go_wp2_with fail
          go_ret
          exact ⟨ret_bool hlow.out.symm, hb1⟩

end Go.Proofs.Ytgokgcnalgpiiaa

/-
  The walk of the law FunCalls.
-/
import Derived.Test.YtafjkmhphakhhaaFunAwake
import Derived.Test.YtafjkmhphakhhaaFunApp
import Derived.Test.YtafjkmhphakhhaaFunSmall
namespace Go.Proofs.Ytafjkmhphakhhaa
open Go.ChangeShapes Go.WideShapes Go.ChangeAt Go.RowKit Go.Sort

set_option maxRecDepth 100000 in
set_option maxHeartbeats 1000000 in
theorem funCalls_walk (lib : List Fn1) (A : Option Addr) (cap : Nat) (f : Int) (s : ByteArray) (w : World) (hL : LibAt w A lib) (hF : LibFit lib) :
    Calls Try.prog 5 #[.slice A lib.length cap, .int .i64 f, .string s] w fun e w' => e = .returned (.bool true) ∧ Below w.heap.size w w' := by
  have hl := hF.1
  have HL := Lib.hid hL
  clear hL
  go_enter Try.func5, Try.ntmps5
  go_wp2_with fail
  refine (awake_any w).mono ?_
  rintro e w1 ⟨rfl, hb1⟩
  go_wp2_with fail
  refine (great_any lib A cap w1 (HL.out.mono hb1) hF).mono ?_
  rintro e w2 ⟨rfl, hb2⟩
  have q2 := Lib.hid (below_step hb1 hb1.size hb2)
  clear hb1 hb2
  cases hg : greatB lib with
  | true =>
    go_wp2_with fail
    go_ret
    exact ⟨rfl, q2.out⟩
  | false =>
  obtain ⟨h40, hP, hN, hS⟩ := great_no hg
  have HS := Lib.hid hS
  clear hS hg
  go_wp2_with fail
  refine (calls_any lib A cap f w2 (HL.out.mono q2.out) hF hN).mono ?_
  rintro e w3 ⟨A3, c3, rfl, hI3, hb3⟩
  have q3 := Lib.hid (below_step q2.out q2.out.size hb3)
  clear hb3 q2
  go_wp2_with fail
  refine (find_any lib A cap s w3 (HL.out.mono q3.out) hl).mono ?_
  rintro e w4 ⟨rfl, hb4⟩
  have q4 := Lib.hid (below_step q3.out q3.out.size hb4)
  have hI4 := Lib.hid (hI3.mono hb4)
  clear hb4 q3 hI3
  go_wp2_with fail
  refine (rfind_any lib A cap s w4 (HL.out.mono q4.out) hl).mono ?_
  rintro e w4 ⟨rfl, rfl⟩
  have hE := Lib.hid (callsR.eq_def lib f)
  have hff : (findF lib s 0 != findF lib s 0) = false := by simp
  generalize findF lib s 0 = fi at *
  by_cases hr : f < 0 ∨ (lib.length : Int) ≤ f
  · rw [if_pos hr] at hE
    have hlen : (callsR lib f).length = 0 := by rw [hE.out]; rfl
    rw [hlen]
    rcases hr with h0 | h1
    · go_wp2_with fail
      go_ret
      exact ⟨rfl, q4.out⟩
    · have h0 : ¬ f < 0 := by omega
      go_wp2_with fail
      go_ret
      exact ⟨rfl, q4.out⟩
  rw [if_neg hr] at hE
  have h0 : ¬ f < 0 := by omega
  have h1 : ¬ (lib.length : Int) ≤ f := by omega
  obtain ⟨i, rfl⟩ : ∃ i : Nat, f = i := ⟨f.toNat, by omega⟩
  have hi : i < lib.length := by omega
  clear hr
  obtain ⟨b, o, rfl, hfo⟩ := (HL.out.mono q4.out).at_ hi
  have hget : lib[i]? = some lib[i] := List.getElem?_eq_getElem hi
  obtain ⟨hfn, hfp, hfb⟩ := hF.2 i _ hget
  have hnn := hN i _ hget
  rw [Int.toNat_natCast, hget] at hE
  have hE : Hid (callsR lib i = callsT lib lib[i].body) := hE
  generalize lib[i] = g at *
  clear hget
  have hlt := hfo.lt
  obtain ⟨c0, ⟨A1, cp1, c1, hps⟩, c2, hbody⟩ := hfo
  obtain ⟨A9, cp9, d0, d1, d2, d3, hks⟩ := hbody.open_
  have r1 : (0 : Int) ≤ i := by omega
  have r2 : (i : Int) < lib.length := by omega
  have hcb := callsT_le lib g.body
  rw [← hE.out] at hcb
  go_wp2_with fail
  refine (rcalls_any lib _ cap hF _ g.body (Nat.le_refl _) hfb A9 cp9 w4 (HL.out.mono q4.out) hks (by omega)).mono ?_
  rintro e w5 ⟨A5, c5, rfl, hI5, hb5⟩
  rw [← hE.out] at hI5 ⊢
  have q5 := Lib.hid (below_step q4.out q4.out.size hb5)
  have HA := Lib.hid (hI4.out.mono hb5)
  have HB := Lib.hid hI5
  clear hb5 q4 hI4 hI5 c0 c1 c2 d0 d1 d2 d3 hps hbody hks hE
  generalize callsR lib i = l at *
  have hne : ((l.length : Int) != l.length) = false := by simp
  go_wp2_with fail
  go_loopw [9] (fun i wr => ∃ k : Nat, k ≤ l.length ∧ i = .int .i64 k ∧ Below w5.heap.size w5 wr) (fun i _ => l.length - (intOf i).toNat)
  case atStart => exact ⟨0, by omega, rfl, Below.refl _ _⟩
  case round =>
    obtain ⟨k, hk, rfl, hb⟩ := hrel
    by_cases hin : k < l.length
    · obtain ⟨b, o, rfl, hi⟩ := (HA.out.mono hb).at_ hin
      obtain ⟨b', o', rfl, hi'⟩ := (HB.out.mono hb).at_ hin
      have r1 : (0 : Int) ≤ k := by omega
      have r2 : (k : Int) < l.length := by omega
      generalize l[k] = x at *
      have hx : (x != x) = false := by simp
      go_wp2_with fail
      go_quiet (fail)
      go_wp2_with fail
      exact ⟨⟨k + 1, by omega, by go_num, hb.trans ⟨rfl, rfl, rfl, Nat.le_refl _, fun _ _ => rfl⟩⟩, by simp [intOf]; omega⟩
    · go_wp2_with fail
      go_ret
      exact ⟨rfl, below_step q5.out q5.out.size hb⟩

end Go.Proofs.Ytafjkmhphakhhaa

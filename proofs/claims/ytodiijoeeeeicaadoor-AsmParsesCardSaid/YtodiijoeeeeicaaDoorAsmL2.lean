/-
  AsmParses: the walk.
-/
import Derived.Test.YtodiijoeeeeicaaDoorAsmL9
import Derived.Test.YtodiijoeeeeicaaDoorAsmRPa
namespace Go.Proofs.YtodiijoeeeeicaaDoor
open Go.ChangeShapes Go.WideShapes Go.ChangeAt Go.RowKit Go.Sort

/-- What a parser answers: the code, the line, the error. -/
def prsL : RA → List Ins | .err _ _ => [] | .ok l => l
def prsN : RA → Nat | .err n _ => n | .ok _ => 0
def prsC : RA → Int | .err _ c => c | .ok _ => 0
theorem retpa_code {s : List UInt8} {w w' : World} {e : Ending} (h : RetPA s w e w') : ∃ (A : Option Addr) (c : Nat), e = .returned (.tuple #[.slice A (prsL (parseA s)).length c, .int .i64 (prsN (parseA s)), .int .i64 (prsC (parseA s))]) ∧ CodeAt w' A (prsL (parseA s)) ∧ Below w.heap.size w w' := by
  unfold RetPA at h
  cases hd : parseA s with
  | err n c =>
    rw [hd] at h
    obtain ⟨hb, rfl⟩ := h
    exact ⟨none, 0, rfl, fun k x hk => by simp [prsL] at hk, hb⟩
  | ok l =>
    rw [hd] at h
    obtain ⟨v, rfl, hw, _⟩ := h
    obtain ⟨A, c, rfl, hc⟩ := code_of_own hw.2
    exact ⟨A, c, rfl, hc, hw.1⟩
theorem prsL_small (s : List UInt8) : (prsL (parseA s)).length ≤ 1000000 := by
  cases hd : parseA s with
  | err n c => simp [prsL]
  | ok l => have := (parseA_ok hd).2.2; simp [prsL]; omega
set_option maxRecDepth 100000 in
set_option maxHeartbeats 2000000 in
theorem asmParses_walk (s : List UInt8) (w : World) (hs : s.length ≤ 9223372036854775807) (hT : Tab w) (hS : TabS w) (hW : Wld w) :
    Calls Tryd.prog 4 #[.string (bs s)] w fun e w' => e = .returned (.bool true) ∧ Below w.heap.size w w' := by
  have HAW := Lib.hid (awake_any w hT hS hW)
  have HTS := Lib.hid (And.intro hT (And.intro hS hW))
  have hsz := bs_size s
  clear hT hS hW
  go_enter Tryd.func4, Tryd.ntmps4
  go_wp2_with fail
  refine HAW.out.mono ?_
  rintro e W1 ⟨rfl, hb1⟩
  have q1 := Lib.hid hb1
  clear hb1 HAW
  by_cases h600 : 600 < s.length
  · have h600' : (600 : Int) < s.length := by omega
    go_wp2_with fail
    go_ret
    exact ⟨rfl, q1.out⟩
  have h600' : (s.length : Int) ≤ 600 := by omega
  have HLN := Lib.hid (show s.length ≤ 600 by omega)
  clear hs h600
  obtain ⟨l, hl⟩ : ∃ l, prsL (parseA s) = l := ⟨_, rfl⟩
  obtain ⟨ln, hln⟩ : ∃ n, prsN (parseA s) = n := ⟨_, rfl⟩
  obtain ⟨ce, hce⟩ : ∃ c, prsC (parseA s) = c := ⟨_, rfl⟩
  have HL := Lib.hid hl
  have HN := Lib.hid hln
  have HCE := Lib.hid hce
  have HSM := Lib.hid (show l.length ≤ 1000000 by rw [← hl]; exact prsL_small s)
  clear hl hln hce
  have HD1 := Lib.hid (parse_any s W1 (by have := HLN.out; omega) (HTS.out.1.mono q1.out) (HTS.out.2.1.mono q1.out) (HTS.out.2.2.below q1.out))
  go_wp2_with fail
  refine HD1.out.mono ?_
  intro e W2 he
  have he2 := retpa_code he
  rw [HL.out, HN.out, HCE.out] at he2
  obtain ⟨A2, c2, rfl, hc2, hb2⟩ := he2
  have q2 := Lib.hid (below_step q1.out q1.out.size hb2)
  have HC2 := Lib.hid hc2
  clear hc2 hb2 he HD1
  have HD2 := Lib.hid (rparse_any s W2 (by have := HLN.out; omega))
  go_wp2_with fail
  refine HD2.out.mono ?_
  intro e W3 he
  have he2 := retpa_code he
  rw [HL.out, HN.out, HCE.out] at he2
  obtain ⟨A3, c3, rfl, hc3, hb3⟩ := he2
  have q3 := Lib.hid (below_step q2.out q2.out.size hb3)
  have HS := Lib.hid (same_self l A2 A3 c2 c3 W3 (HC2.out.mono hb3) hc3 HSM.out)
  clear hc3 hb3 he HD2
  go_wp2_with (go_at_call 19; refine HS.out.mono ?_; rintro e w4 ⟨rfl, hb4⟩; have q4 := Lib.hid (below_step q3.out q3.out.size hb4); clear hb4)
  go_ret
  exact ⟨rfl, q4.out⟩

end Go.Proofs.YtodiijoeeeeicaaDoor

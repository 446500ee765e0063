/-
  AsmDecodes: the walk.
-/
import Derived.Test.YtodiijoeeeeicaaDoorAsmL9
import Derived.Test.YtodiijoeeeeicaaDoorAsmRDe
namespace Go.Proofs.YtodiijoeeeeicaaDoor
open Go.ChangeShapes Go.WideShapes Go.ChangeAt Go.RowKit Go.Sort

/-- What the two decoders answer. -/
theorem retda_code {b : List UInt8} {w w' : World} {e : Ending} (h : RetDA b w e w') : ∃ (A : Option Addr) (c : Nat), e = .returned (.tuple #[.slice A (match decA b with | .err _ => [] | .ok l => l).length c, .int .i64 (match decA b with | .err c => c | .ok _ => 0)]) ∧ CodeAt w' A (match decA b with | .err _ => [] | .ok l => l) ∧ Below w.heap.size w w' := by
  unfold RetDA at h
  cases hd : decA b with
  | err c =>
    rw [hd] at h
    obtain ⟨hb, rfl⟩ := h
    exact ⟨none, 0, rfl, fun k x hk => by simp at hk, hb⟩
  | ok l =>
    rw [hd] at h
    obtain ⟨v, rfl, hw, _⟩ := h
    obtain ⟨A, c, rfl, hc⟩ := code_of_own hw.2
    exact ⟨A, c, rfl, hc, hw.1⟩
set_option maxRecDepth 100000 in
set_option maxHeartbeats 2000000 in
theorem asmDecodes_walk (b : List UInt8) (B : Option Addr) (cap : Nat) (w : World) (hB : BysAt w B b) (hcap : b.length ≤ cap) (hb : b.length ≤ 9223372036854775807) (hT : Tab w) (hS : TabS w) (hW : Wld w) :
    Calls Tryd.prog 9 #[.slice B b.length cap] w fun e w' => e = .returned (.bool true) ∧ Below w.heap.size w w' := by
  have HAW := Lib.hid (awake_any w hT hS hW)
  have HTS := Lib.hid hT
  have HB := Lib.hid hB
  clear hT hS hW hB
  go_enter Tryd.func9, Tryd.ntmps9
  go_wp2_with fail
  refine HAW.out.mono ?_
  rintro e W1 ⟨rfl, hb1⟩
  have q1 := Lib.hid hb1
  clear hb1 HAW
  by_cases g600 : 600 < b.length
  · have g600' : (600 : Int) < b.length := by omega
    go_wp2_with fail
    go_ret
    exact ⟨rfl, q1.out⟩
  have g600' : (b.length : Int) ≤ 600 := by omega
  have HLN := Lib.hid (show b.length ≤ 600 by omega)
  clear hb g600
  obtain ⟨l, hl⟩ : ∃ l, (match decA b with | .err _ => [] | .ok l => l) = l := ⟨_, rfl⟩
  obtain ⟨ce, hce⟩ : ∃ ce, (match decA b with | .err c => c | .ok _ => (0 : Int)) = ce := ⟨_, rfl⟩
  have HL := Lib.hid hl
  have HCE := Lib.hid hce
  have HSM := Lib.hid (show l.length ≤ 1000000 by
    rw [← hl]
    cases hd : decA b with
    | err c => simp
    | ok l => have := (decA_ok hd).2.2; simp; omega)
  clear hl hce
  have HD1 := Lib.hid (decode_any b B cap W1 (HB.out.mono q1.out) hcap (HTS.out.mono q1.out))
  go_wp2_with fail
  refine HD1.out.mono ?_
  intro e W2 he
  have he2 := retda_code he
  rw [HL.out, HCE.out] at he2
  obtain ⟨A2, c2, rfl, hc2, hb2⟩ := he2
  have q2 := Lib.hid (below_step q1.out q1.out.size hb2)
  have HC2 := Lib.hid hc2
  clear hc2 hb2 he HD1
  have HD2 := Lib.hid (rdecode_any b B cap W2 (HB.out.mono q2.out) hcap)
  go_wp2_with fail
  refine HD2.out.mono ?_
  intro e W3 he
  have he2 := retda_code he
  rw [HL.out, HCE.out] at he2
  obtain ⟨A3, c3, rfl, hc3, hb3⟩ := he2
  have q3 := Lib.hid (below_step q2.out q2.out.size hb3)
  have HS := Lib.hid (same_self l A2 A3 c2 c3 W3 (HC2.out.mono hb3) hc3 HSM.out)
  clear hc3 hb3 he HD2
  go_wp2_with (go_at_call 19; refine HS.out.mono ?_; rintro e w4 ⟨rfl, hb4⟩; have q4 := Lib.hid (below_step q3.out q3.out.size hb4); clear hb4)
  go_ret
  exact ⟨rfl, q4.out⟩

end Go.Proofs.YtodiijoeeeeicaaDoor

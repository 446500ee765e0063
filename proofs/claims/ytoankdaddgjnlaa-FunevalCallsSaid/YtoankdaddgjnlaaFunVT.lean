/-
  The contracts of fun.Valid and fun.Type.
-/
import Derived.Test.YtoankdaddgjnlaaFunValid
import Derived.Lib.QuietBelow
namespace Go.Proofs.Ytoankdaddgjnlaa
open Go.ChangeShapes Go.WideShapes Go.ChangeAt Go.RowKit Go.Sort

/-- The first error from index k on, over n indices. -/
def vldL (E : Nat → Int) : Nat → Nat → Int × Int
  | 0, _ => (-1, 0)
  | n + 1, k => if E k ≠ 0 then (k, E k) else vldL E n (k + 1)
noncomputable def oneK (lib : List Fn1) (k : Nat) : Int := match lib[k]? with | some f => oneE lib k f | none => 0
noncomputable def validR (lib : List Fn1) : Int × Int := vldL (oneK lib) lib.length 0
theorem oneK_at {lib : List Fn1} {k : Nat} (h : k < lib.length) : oneE lib k lib[k] = oneK lib k := by
  unfold oneK; rw [List.getElem?_eq_getElem h]
theorem vldL_step {E : Nat → Int} {n k : Nat} (h : k < n) : vldL E (n - k) k = if E k ≠ 0 then ((k : Int), E k) else vldL E (n - (k + 1)) (k + 1) := by
  have : n - k = (n - (k + 1)) + 1 := by omega
  rw [this, vldL]

set_option maxRecDepth 100000 in
set_option maxHeartbeats 1000000 in
theorem valid_any (lib : List Fn1) (A : Option Addr) (cap : Nat) (w : World) (hL : LibAt w A lib) (hF : LibFit lib) (hP : FewParams lib) (hN : FewNodes lib) :
    Calls Try.prog 21 #[.slice A lib.length cap] w fun e w' => e = .returned (.tuple #[.int .i64 (validR lib).1, .int .i64 (validR lib).2]) ∧ Below w.heap.size w w' := by
  have hl := hF.1
  have HL := Lib.hid hL
  clear hL
  go_enter Try.func21, Try.ntmps21
  go_wp2_with fail
  go_loopw [8] (fun i wr => ∃ k : Nat, k ≤ lib.length ∧ i = .int .i64 k ∧ Hid (validR lib = vldL (oneK lib) (lib.length - k) k) ∧ Below w.heap.size w wr) (fun i _ => lib.length - (intOf i).toNat)
  case atStart => exact ⟨0, by omega, rfl, rfl, Below.refl _ _⟩
  case round =>
    obtain ⟨k, hk, rfl, hz, hb⟩ := hrel
    by_cases hin : k < lib.length
    · have hz' := Lib.hid (hz.out.trans (vldL_step hin))
      have hfc := function_any lib A cap k hin wr (HL.out.mono hb) hF hP hN
      rw [oneK_at hin] at hfc
      have HFC := Lib.hid hfc
      clear hz hfc
      go_wp2_with fail
      refine HFC.out.mono ?_
      rintro e w1 ⟨rfl, hb1⟩
      have q1 := below_step hb hb.size hb1
      clear HFC hb hb1
      by_cases he : oneK lib k = 0
      · rw [if_neg (fun h => h he)] at hz'
        have he' : (oneK lib k != 0) = false := by rw [he]; rfl
        generalize oneK lib k = ek at *
        clear he
        go_wp2_with fail
        exact ⟨⟨k + 1, by omega, by go_num, hz', q1⟩, by simp [intOf]; omega⟩
      · rw [if_pos he] at hz'
        have he' : (oneK lib k != 0) = true := by simpa using he
        generalize oneK lib k = ek at *
        go_wp2_with fail
        go_ret2
        exact ⟨by rw [hz'.out]; rfl, q1⟩
    · have hz' := Lib.hid (show validR lib = (-1, 0) by rw [hz.out, show lib.length - k = 0 by omega]; rfl)
      clear hz
      go_wp2_with fail
      go_ret2
      exact ⟨by rw [hz'.out]; rfl, hb⟩

end Go.Proofs.Ytoankdaddgjnlaa

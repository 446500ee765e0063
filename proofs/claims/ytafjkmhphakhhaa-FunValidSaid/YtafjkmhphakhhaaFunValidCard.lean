/-
  Proved here: for every input, the law FunValid of layer 35 returns true (Valid agrees with the specification for arbitrary libraries), and its arguments read afterwards as before.
  Conditions: none beyond the row's own.
-/
import Derived.Test.YtafjkmhphakhhaaFunOpen
import Derived.Test.YtafjkmhphakhhaaFunL1
import Derived.JoinedOf
import Derived.JoinedAt
import Derived.RowKit3
namespace Go.Proofs.Ytafjkmhphakhhaa
open Go.ChangeShapes Go.WideShapes Go.ChangeAt Go.RowKit
open Go.ChangeMaps (open_string)

theorem contract_funValid (H : Type) (enc : TypeId × Value → H) (W : World) (base : Nat) (args : Array Value) (ds gs : List (DataW H)) (before : List MemPlace)
    (hval : ∀ (j : Nat) t v, Try.f3.params[j]? = some t → args[j]? = some v → Value.okWide Try.prog W .any base t v)
    (hW : DataW.Whole enc Try.prog Try.f3.params.toList Rows.funValidSpec.vars false W args.toList ds gs before) :
    Calls Try.prog 3 args W fun e W' => ∃ v, e = .returned v ∧ Rows.funValidSpec.post enc Try.prog Try.f3 false true false false W args v W' := by
  have hW' := hW
  obtain ⟨p, q, hA0, hV, rfl, hfz, hnd⟩ := hW
  have hA : DataW.TrodAll enc Try.prog W 0 (fun _ => true) true Try.f3.params.toList args.toList ds p := hA0
  rw [Try.params3] at hA hval
  obtain ⟨v0, vs0, d0, ds0, p0, q0, hargs0, rfl, rfl, h0, r0⟩ := trodAll_cons hA
  obtain ⟨rfl, rfl, rfl⟩ := trodAll_nil r0
  obtain rfl : args = #[v0] := by cases args; simp_all
  obtain ⟨A0, lib0, c0, rfl, hL0, hF0⟩ := open_lib (hval 0 _ v0 rfl rfl) h0
  exact law_post (tb := 4) laidOut (by kernel_rfl) (by kernel_rfl) Try.underlying4 rfl hW' ⟨rfl, rfl, rfl⟩
    (funValid_walk lib0 A0 c0 W hL0 hF0)

set_option maxRecDepth 100000 in
theorem lifted_funValid (os : Os) (started : os.Started) (H : Type) (enc : TypeId × Value → H) :
    ReturnsInHanded {} Try.checked os 3 .any (Rows.funValidSpec.pre6 enc Try.prog Try.f3 Rows.funValidRow.domain false) (Rows.funValidSpec.post enc Try.prog Try.f3 false true false false) := by
  refine returnsInHanded_of_change (C := Try.checked) own started (by kernel_rfl) Try.func3
    (ChangeSpec.witness6 (enc := enc) (C := Try.checked) false ⟨#[], #[.slice none 0 0], []⟩ 8 (by kernel_rfl) (by kernel_rfl) (by kernel_rfl) (by kernel_rfl)) ?_
  intro W base args ds gs before hval hW _ _
  exact contract_funValid H enc W base args ds gs before hval hW

theorem said_funValid : Rows.FunValidSaid :=
  OpenClaim.holds_of_wide 3 Try.f3 rfl rfl rfl rfl rfl rfl rfl ⟨rfl, rfl, rfl, rfl, rfl⟩ rfl rfl rfl rfl rfl (by kernel_rfl) Try.func3 (by kernel_rfl)
    (of_decide_eq_true (by kernel_rfl)) (by unfold Func.isWrapper; first | (rw [if_pos (by decide +kernel)]; kernel_rfl) | (rw [if_neg (by decide +kernel)]; exact ⟨rfl, rfl⟩))
    (fun os started H enc _ => lifted_funValid os started H enc)

end Go.Proofs.Ytafjkmhphakhhaa

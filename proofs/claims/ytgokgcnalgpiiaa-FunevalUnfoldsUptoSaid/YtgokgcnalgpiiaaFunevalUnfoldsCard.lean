/-
  Proved here: for every input, the law FunevalUnfolds of layer 37 returns true (a call is its body), and its arguments read afterwards as before.
  Conditions: the row's own: what the arguments hold is of bulk at most 1048576.
-/
import Derived.Test.YtgokgcnalgpiiaaFevOpen2
import Derived.Test.YtgokgcnalgpiiaaFevLUnf
import Derived.JoinedOf
import Derived.JoinedAt
import Derived.RowKit3
namespace Go.Proofs.Ytgokgcnalgpiiaa
open Go.ChangeShapes Go.WideShapes Go.ChangeAt Go.RowKit
open Go.ChangeMaps (open_string)

set_option maxRecDepth 100000 in
theorem contract_funevalUnfolds (H : Type) (enc : TypeId × Value → H) (W : World) (base : Nat) (args : Array Value) (ds gs : List (DataW H)) (before : List MemPlace)
    (hval : ∀ (j : Nat) t v, Try.f8.params[j]? = some t → args[j]? = some v → Value.okWide Try.prog W .any base t v)
    (hW : DataW.Whole enc Try.prog Try.f8.params.toList Rows.funevalUnfoldsSpec.vars false W args.toList ds gs before) (hcond : Rows.uptoSmall H (ds ++ gs) = true) :
    Calls Try.prog 8 args W fun e W' => ∃ v, e = .returned v ∧ Rows.funevalUnfoldsSpec.post enc Try.prog Try.f8 false true false false W args v W' := by
  have hW' := hW
  obtain ⟨p, q, hA0, hV, rfl, hfz, hnd⟩ := hW
  have hA : DataW.TrodAll enc Try.prog W 0 (fun _ => true) true Try.f8.params.toList args.toList ds p := hA0
  rw [Try.params8] at hA hval
  obtain ⟨v0, vs0, d0, ds0, p0, q0, hargs0, rfl, rfl, h0, r0⟩ := trodAll_cons hA
  obtain ⟨v1, vs1, d1, ds1, p1, q1, rfl, rfl, rfl, h1, r1⟩ := trodAll_cons r0
  obtain ⟨v2, vs2, d2, ds2, p2, q2, rfl, rfl, rfl, h2, r2⟩ := trodAll_cons r1
  obtain ⟨rfl, rfl, rfl⟩ := trodAll_nil r2
  obtain rfl : args = #[v0, v1, v2] := by cases args; simp_all
  obtain ⟨A0, lib0, c0, rfl, hL0, hF0, hX0⟩ := open_libM (hval 0 _ v0 rfl rfl) h0
  have hbk : Rows.uptoBulk d0 ≤ 1048576 := by
    simp only [Rows.uptoSmall, List.cons_append, Rows.uptoBulkAll, decide_eq_true_eq] at hcond
    omega
  obtain ⟨s1, rfl, -, -, w1⟩ := open_string Try.underlying9 (hval 1 _ v1 rfl rfl) h1
  obtain ⟨A2, l2, c2, rfl, i2, j2, k2⟩ := open_vals (hval 2 _ v2 rfl rfl) h2
  exact law_post (tb := 4) laidOut (by kernel_rfl) (by kernel_rfl) Try.underlying4 rfl hW' ⟨rfl, rfl, rfl⟩
    (funevalUnfolds_walk lib0 A0 c0 s1 l2 A2 c2 W hL0 hF0 (fun k f hk => by have := (hX0 k f hk).1; omega) (fun k f hk => by have := (hX0 k f hk).2; omega) i2 j2 k2 (by unfold maxLen at w1; exact w1))

theorem reads_funevalUnfolds (os : Os) {H : Type} (enc : TypeId × Value → H) : ∃ places, DataW.whole enc Try.prog ((World.holding Try.prog os ⟨#[], #[], []⟩).forCall (fun _ _ => 0) ⟨#[], #[.slice none 0 0, .string ⟨#[]⟩, .slice none 0 0], []⟩).memory Try.f8.params.toList Rows.funevalUnfoldsSpec.vars false (#[.slice none 0 0, .string ⟨#[]⟩, .slice none 0 0] : Array Value).toList 8 = some ([.nil, .lit (.string []), .nil], [], places) :=
  ⟨[], by kernel_rfl⟩
set_option maxRecDepth 100000 in
theorem lifted_funevalUnfolds (os : Os) (started : os.Started) (H : Type) (enc : TypeId × Value → H) (F : Stop.Interp) :
    ReturnsInHanded {} Try.checked os 8 .any ((Rows.OpenSpec.upto Rows.funevalUnfoldsSpec).preRow enc Try.prog Try.f8 Rows.funevalUnfoldsUptoRow.domain false Rows.funevalUnfoldsUptoRow.laid) (((Rows.OpenSpec.upto Rows.funevalUnfoldsSpec).at F).post enc Try.prog Try.f8 false true false false) := by
  obtain ⟨places, hx⟩ := reads_funevalUnfolds os enc
  refine returnsInHanded_of_row (C := Try.checked) (s := Rows.OpenSpec.upto Rows.funevalUnfoldsSpec) own started (by kernel_rfl) Try.func8
    (witness_row_at (enc := enc) (C := Try.checked) false (World.holding Try.prog os ⟨#[], #[], []⟩) #[.slice none 0 0, .string ⟨#[]⟩, .slice none 0 0] rfl (by kernel_rfl) (by kernel_rfl) (by kernel_rfl)
      (OpenSpec.preRow_of_cond 8 hx (by kernel_rfl) (fun k hk => by cases hk; kernel_rfl) (by kernel_rfl) (laidMetH_nil _ _))) ?_
  intro W base args ds gs before hval hW _ hcond _ _ _ _
  exact contract_funevalUnfolds H enc W base args ds gs before hval hW (hcond _ rfl)

theorem upto_funevalUnfolds : Rows.FunevalUnfoldsUptoSaid :=
  OpenClaim.holds_of_cond 8 Try.f8 rfl rfl rfl rfl rfl rfl rfl ⟨rfl, rfl, rfl, rfl, rfl⟩ rfl rfl rfl rfl rfl (by kernel_rfl) Try.func8 (by kernel_rfl)
    (of_decide_eq_true (by kernel_rfl)) (by unfold Func.isWrapper; first | (rw [if_pos (by decide +kernel)]; kernel_rfl) | (rw [if_neg (by decide +kernel)]; exact ⟨rfl, rfl⟩))
    (fun os started H enc _ F => by rw [OpenClaim.pre_eq_preRow]; exact lifted_funevalUnfolds os started H enc F)

end Go.Proofs.Ytgokgcnalgpiiaa

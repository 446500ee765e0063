/-
  Proved here: for every input, the law ImageJoin of layer 23 returns true (two valid images in sequence form a valid image with the expected inverse), and its arguments read afterwards as before.
  Conditions: none beyond the row's own (package isa's table is as its initialiser lays it; the card ties that to the program's text).
-/
import Derived.Test.YthakiaicnhkfjaaDoorImgOpen
import Derived.Test.YthakiaicnhkfjaaDoorImgL6
namespace Go.Proofs.YthakiaicnhkfjaaDoor
open Go.ChangeShapes Go.WideShapes Go.ChangeAt Go.RowKit

theorem contract_imageJoin (H : Type) (enc : TypeId × Value → H) (W : World) (base : Nat) (args : Array Value) (ds gs : List (DataW H)) (before : List MemPlace)
    (hval : ∀ (j : Nat) t v, Tryd.f6.params[j]? = some t → args[j]? = some v → Value.okWide Tryd.prog W .any base t v)
    (hW : DataW.Whole enc Tryd.prog Tryd.f6.params.toList Rows.imageJoinSpec.vars false W args.toList ds gs before) (hL : laidMetH Tryd.prog Rows.imageJoinRow.laid W) :
    Calls Tryd.prog 6 args W fun e W' => ∃ v, e = .returned v ∧ Rows.imageJoinSpec.post enc Tryd.prog Tryd.f6 false true false false W args v W' := by
  have hW' := hW
  obtain ⟨p, q, hA0, hV, rfl, hfz, hnd⟩ := hW
  have hA : DataW.TrodAll enc Tryd.prog W 0 (fun _ => true) true Tryd.f6.params.toList args.toList ds p := hA0
  rw [Tryd.params6] at hA hval
  obtain ⟨v0, vs0, d0, ds0, p0, q0, hargs0, rfl, rfl, h0, r0⟩ := trodAll_cons hA
  obtain ⟨v1, vs1, d1, ds1, p1, q1, hargs1, rfl, rfl, h1, r1⟩ := trodAll_cons r0
  obtain ⟨rfl, rfl, rfl⟩ := trodAll_nil r1
  obtain rfl : args = #[v0, v1] := by cases args; simp_all
  obtain ⟨A0, l0, cap0, M0, S0, rfl, hC0, hY0, hl0⟩ := open_image (hval 0 _ v0 rfl rfl) h0
  obtain ⟨A1, l1, cap1, M1, S1, rfl, hC1, hY1, hl1⟩ := open_image (hval 1 _ v1 rfl rfl) h1
  exact law_post (tb := 4) laidOut (by kernel_rfl) (by kernel_rfl) Tryd.underlying4 rfl hW' ⟨rfl, rfl, rfl⟩
    (imageJoin_walk l0 l1 A0 A1 cap0 cap1 M0 S0 M1 S1 W hC0 hC1 hY0 hY1 hl0 hl1 (tab_of_laid hL))

noncomputable def laidWorld_imageJoin (os : Os) : World :=
  { World.holding Tryd.prog os ⟨#[], #[], []⟩ with heap := (World.holding Tryd.prog os ⟨#[], #[], []⟩).heap.modify 0 fun
      | .cells _ t frozen => .cells ((List.range 35).flatMap fun i => [Value.string ⟨(mnem i).toArray⟩, Value.int .i64 (opsN i)]).toArray t frozen
      | o => o }
theorem laid_met_imageJoin (os : Os) : laidMet Tryd.prog Rows.imageJoinRow.laid ((laidWorld_imageJoin os).forCall (fun _ _ => 0) ⟨#[], #[.agg #[.slice none 0 0, .int .i64 0, .int .i64 0], .agg #[.slice none 0 0, .int .i64 0, .int .i64 0]], []⟩).memory :=
  laidMet_of_run' 8 (by kernel_rfl) (by kernel_rfl)
theorem reads_imageJoin (os : Os) {H : Type} (enc : TypeId × Value → H) : ∃ places, DataW.whole enc Tryd.prog ((laidWorld_imageJoin os).forCall (fun _ _ => 0) ⟨#[], #[.agg #[.slice none 0 0, .int .i64 0, .int .i64 0], .agg #[.slice none 0 0, .int .i64 0, .int .i64 0]], []⟩).memory Tryd.f6.params.toList Rows.imageJoinSpec.vars false (#[.agg #[.slice none 0 0, .int .i64 0, .int .i64 0], .agg #[.slice none 0 0, .int .i64 0, .int .i64 0]] : Array Value).toList 8 = some ([.agg [.nil, .lit (.int .i64 0), .lit (.int .i64 0)], .agg [.nil, .lit (.int .i64 0), .lit (.int .i64 0)]], [], places) :=
  ⟨[], by kernel_rfl⟩

set_option maxRecDepth 100000 in
theorem lifted_imageJoin (os : Os) (started : os.Started) (H : Type) (enc : TypeId × Value → H) (F : Stop.Interp) :
    ReturnsInHanded {} Tryd.checked os 6 .any ((OpenSpec.ofChange Rows.imageJoinSpec).preRow enc Tryd.prog Tryd.f6 Rows.imageJoinRow.domain false Rows.imageJoinRow.laid) (((OpenSpec.ofChange Rows.imageJoinSpec).at F).post enc Tryd.prog Tryd.f6 false true false false) := by
  obtain ⟨places, hx⟩ := reads_imageJoin os enc
  refine returnsInHanded_of_row (C := Tryd.checked) (s := OpenSpec.ofChange Rows.imageJoinSpec) own started (by kernel_rfl) Tryd.func6
    (witness_row_at (enc := enc) (C := Tryd.checked) false (laidWorld_imageJoin os) #[.agg #[.slice none 0 0, .int .i64 0, .int .i64 0], .agg #[.slice none 0 0, .int .i64 0, .int .i64 0]] rfl (by kernel_rfl) (by kernel_rfl) (by kernel_rfl)
      (OpenSpec.preRow_of_cond 8 hx (by kernel_rfl) (fun k hk => by cases hk) (by kernel_rfl) (laid_met_imageJoin os))) ?_
  intro W base args ds gs before hval hW _ _ _ hL _ _
  exact contract_imageJoin H enc W base args ds gs before hval hW hL

theorem said_imageJoin : Rows.ImageJoinSaid :=
  OpenClaim.holds_of_cond 6 Tryd.f6 rfl rfl rfl rfl rfl rfl rfl ⟨rfl, rfl, rfl, rfl, rfl⟩ rfl rfl rfl rfl rfl (by kernel_rfl) Tryd.func6 (by kernel_rfl)
    (of_decide_eq_true (by kernel_rfl)) (by unfold Func.isWrapper; first | (rw [if_pos (by decide +kernel)]; kernel_rfl) | (rw [if_neg (by decide +kernel)]; exact ⟨rfl, rfl⟩))
    (fun os started H enc _ F => by rw [OpenClaim.pre_eq_preRow]; exact lifted_imageJoin os started H enc F)

theorem plain_imageJoin (f : FuncId) (fn : Func) (hf : Tryd.pinned.checked.prog.funcNamed "backstep/backsteplaw23.ImageJoin" = some f) (hfn : Tryd.pinned.checked.prog.funcs[f]? = some fn) :
    false = Tryd.pinned.checked.prog.looks [] ∧ ∀ (j : Nat) t, fn.params[j]? = some t → Tryd.pinned.checked.prog.wantsStandIn t = false := by
  obtain rfl : f = 6 := Option.some.inj ((show Tryd.prog.funcNamed "backstep/backsteplaw23.ImageJoin" = some 6 by kernel_rfl).symm.trans hf) |>.symm
  obtain rfl : fn = Tryd.f6 := (Option.some.inj (Tryd.func6.symm.trans hfn)).symm
  refine ⟨by kernel_rfl, fun j t ht => ?_⟩
  have hall : Tryd.f6.params.all (fun t => !Tryd.prog.wantsStandIn t) = true := by kernel_rfl
  have := Array.all_eq_true'.1 hall t (Array.mem_of_getElem? ht)
  exact (show Tryd.prog.wantsStandIn t = false by simpa using this)

/-- The card: the law's statement. -/
theorem card_imageJoin : Rows.ImageJoinCardSaid :=
  Claim7.holds_tied_plain_at .later [] _ _ _ _ said_imageJoin (fun _ h => by cases h) (by kernel_rfl) (fun _ h => by cases h) imageJoin_row_tie rfl ⟨rfl, rfl⟩ (by kernel_rfl) rfl plain_imageJoin (by kernel_rfl)

end Go.Proofs.YthakiaicnhkfjaaDoor

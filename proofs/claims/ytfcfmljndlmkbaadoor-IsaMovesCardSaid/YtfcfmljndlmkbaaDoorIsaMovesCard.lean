/-
  Proved here: for every input, the law IsaMoves of layer 21 returns true (retargeting is a lens), and its arguments read afterwards as before.
  Conditions: none beyond the row's own (package isa's table is as its initialiser lays it; the card ties that to the program's text).
-/
import Derived.Test.YtfcfmljndlmkbaaDoorIsaOpen
import Derived.Test.YtfcfmljndlmkbaaDoorIsaL5
namespace Go.Proofs.YtfcfmljndlmkbaaDoor
open Go.ChangeShapes Go.WideShapes Go.ChangeAt Go.RowKit

theorem contract_isaMoves (H : Type) (enc : TypeId × Value → H) (W : World) (base : Nat) (args : Array Value) (ds gs : List (DataW H)) (before : List MemPlace)
    (hval : ∀ (j : Nat) t v, Tryd.f8.params[j]? = some t → args[j]? = some v → Value.okWide Tryd.prog W .any base t v)
    (hW : DataW.Whole enc Tryd.prog Tryd.f8.params.toList Rows.isaMovesSpec.vars false W args.toList ds gs before) (hL : laidMetH Tryd.prog Rows.isaMovesRow.laid W) :
    Calls Tryd.prog 8 args W fun e W' => ∃ v, e = .returned v ∧ Rows.isaMovesSpec.post enc Tryd.prog Tryd.f8 false true false false W args v W' := by
  have hW' := hW
  obtain ⟨p, q, hA0, hV, rfl, hfz, hnd⟩ := hW
  have hA : DataW.TrodAll enc Tryd.prog W 0 (fun _ => true) true Tryd.f8.params.toList args.toList ds p := hA0
  rw [Tryd.params8] at hA hval
  obtain ⟨v0, vs0, d0, ds0, p0, q0, hargs0, rfl, rfl, h0, r0⟩ := trodAll_cons hA
  obtain ⟨v1, vs1, d1, ds1, p1, q1, hargs1, rfl, rfl, h1, r1⟩ := trodAll_cons r0
  obtain ⟨v2, vs2, d2, ds2, p2, q2, hargs2, rfl, rfl, h2, r2⟩ := trodAll_cons r1
  obtain ⟨rfl, rfl, rfl⟩ := trodAll_nil r2
  obtain rfl : args = #[v0, v1, v2] := by cases args; simp_all
  obtain ⟨op0, A0, B0, C0, D0, hop0, rfl⟩ := open_instr (hval 0 _ v0 rfl rfl) h0
  obtain ⟨n1, rfl, rfl, _, _⟩ := open_int Tryd.underlying3 (hval 1 _ v1 rfl rfl) h1
  obtain ⟨n2, rfl, rfl, _, _⟩ := open_int Tryd.underlying3 (hval 2 _ v2 rfl rfl) h2
  exact law_post (tb := 4) laidOut (by kernel_rfl) (by kernel_rfl) Tryd.underlying4 rfl hW' ⟨rfl, rfl, rfl⟩
    (isaMoves_walk op0 hop0 A0 B0 C0 D0 n1 n2 W (tab_of_laid hL))

noncomputable def laidWorld_isaMoves (os : Os) : World :=
  { World.holding Tryd.prog os ⟨#[], #[], []⟩ with heap := (World.holding Tryd.prog os ⟨#[], #[], []⟩).heap.modify 0 fun
      | .cells _ t frozen => .cells ((List.range 35).flatMap fun i => [Value.string ⟨(mnem i).toArray⟩, Value.int .i64 (opsN i)]).toArray t frozen
      | o => o }
theorem laid_met_isaMoves (os : Os) : laidMet Tryd.prog Rows.isaMovesRow.laid ((laidWorld_isaMoves os).forCall (fun _ _ => 0) ⟨#[], #[.agg #[.int .u8 0, .int .i64 0, .int .i64 0, .int .i64 0, .int .i64 0], .int .i64 0, .int .i64 0], []⟩).memory :=
  laidMet_of_run' 8 (by kernel_rfl) (by kernel_rfl)
theorem reads_isaMoves (os : Os) {H : Type} (enc : TypeId × Value → H) : ∃ places, DataW.whole enc Tryd.prog ((laidWorld_isaMoves os).forCall (fun _ _ => 0) ⟨#[], #[.agg #[.int .u8 0, .int .i64 0, .int .i64 0, .int .i64 0, .int .i64 0], .int .i64 0, .int .i64 0], []⟩).memory Tryd.f8.params.toList Rows.isaMovesSpec.vars false (#[.agg #[.int .u8 0, .int .i64 0, .int .i64 0, .int .i64 0, .int .i64 0], .int .i64 0, .int .i64 0] : Array Value).toList 8 = some ([.agg [.lit (.int .u8 0), .lit (.int .i64 0), .lit (.int .i64 0), .lit (.int .i64 0), .lit (.int .i64 0)], .lit (.int .i64 0), .lit (.int .i64 0)], [], places) :=
  ⟨[], by kernel_rfl⟩

set_option maxRecDepth 100000 in
theorem lifted_isaMoves (os : Os) (started : os.Started) (H : Type) (enc : TypeId × Value → H) (F : Stop.Interp) :
    ReturnsInHanded {} Tryd.checked os 8 .any ((OpenSpec.ofChange Rows.isaMovesSpec).preRow enc Tryd.prog Tryd.f8 Rows.isaMovesRow.domain false Rows.isaMovesRow.laid) (((OpenSpec.ofChange Rows.isaMovesSpec).at F).post enc Tryd.prog Tryd.f8 false true false false) := by
  obtain ⟨places, hx⟩ := reads_isaMoves os enc
  refine returnsInHanded_of_row (C := Tryd.checked) (s := OpenSpec.ofChange Rows.isaMovesSpec) own started (by kernel_rfl) Tryd.func8
    (witness_row_at (enc := enc) (C := Tryd.checked) false (laidWorld_isaMoves os) #[.agg #[.int .u8 0, .int .i64 0, .int .i64 0, .int .i64 0, .int .i64 0], .int .i64 0, .int .i64 0] rfl (by kernel_rfl) (by kernel_rfl) (by kernel_rfl)
      (OpenSpec.preRow_of_cond 8 hx (by kernel_rfl) (fun k hk => by cases hk) (by kernel_rfl) (laid_met_isaMoves os))) ?_
  intro W base args ds gs before hval hW _ _ _ hL _ _
  exact contract_isaMoves H enc W base args ds gs before hval hW hL

theorem said_isaMoves : Rows.IsaMovesSaid :=
  OpenClaim.holds_of_cond 8 Tryd.f8 rfl rfl rfl rfl rfl rfl rfl ⟨rfl, rfl, rfl, rfl, rfl⟩ rfl rfl rfl rfl rfl (by kernel_rfl) Tryd.func8 (by kernel_rfl)
    (of_decide_eq_true (by kernel_rfl)) (by unfold Func.isWrapper; first | (rw [if_pos (by decide +kernel)]; kernel_rfl) | (rw [if_neg (by decide +kernel)]; exact ⟨rfl, rfl⟩))
    (fun os started H enc _ F => by rw [OpenClaim.pre_eq_preRow]; exact lifted_isaMoves os started H enc F)

theorem plain_isaMoves (f : FuncId) (fn : Func) (hf : Tryd.pinned.checked.prog.funcNamed "backstep/backsteplaw21.IsaMoves" = some f) (hfn : Tryd.pinned.checked.prog.funcs[f]? = some fn) :
    false = Tryd.pinned.checked.prog.looks [] ∧ ∀ (j : Nat) t, fn.params[j]? = some t → Tryd.pinned.checked.prog.wantsStandIn t = false := by
  obtain rfl : f = 8 := Option.some.inj ((show Tryd.prog.funcNamed "backstep/backsteplaw21.IsaMoves" = some 8 by kernel_rfl).symm.trans hf) |>.symm
  obtain rfl : fn = Tryd.f8 := (Option.some.inj (Tryd.func8.symm.trans hfn)).symm
  refine ⟨by kernel_rfl, fun j t ht => ?_⟩
  have hall : Tryd.f8.params.all (fun t => !Tryd.prog.wantsStandIn t) = true := by kernel_rfl
  have := Array.all_eq_true'.1 hall t (Array.mem_of_getElem? ht)
  exact (show Tryd.prog.wantsStandIn t = false by simpa using this)

/-- The card: the law's statement. -/
theorem card_isaMoves : Rows.IsaMovesCardSaid :=
  Claim7.holds_tied_plain_at .later [] _ _ _ _ said_isaMoves (fun _ h => by cases h) (by kernel_rfl) (fun _ h => by cases h) isaMoves_row_tie rfl ⟨rfl, rfl⟩ (by kernel_rfl) rfl plain_isaMoves (by kernel_rfl)

end Go.Proofs.YtfcfmljndlmkbaaDoor

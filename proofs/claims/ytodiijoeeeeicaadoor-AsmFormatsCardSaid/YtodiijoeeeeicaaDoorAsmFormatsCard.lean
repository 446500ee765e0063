/-
  Proved here: for every input, the law AsmFormats of layer 22 returns true (Format and Encode return the specified text and bytes or error), and its arguments read afterwards as before.
  Conditions: none beyond the row's own (the listed variables of the program and of Go's library are as their initialisers lay them; the card ties that to the program's text).
-/
import Derived.Test.YtodiijoeeeeicaaDoorAsmOpen
import Derived.Test.YtodiijoeeeeicaaDoorAsmL1
namespace Go.Proofs.YtodiijoeeeeicaaDoor
open Go.ChangeShapes Go.WideShapes Go.ChangeAt Go.RowKit
open Go.ChangeMaps (open_string)

set_option maxRecDepth 100000 in
theorem contract_asmFormats (H : Type) (enc : TypeId × Value → H) (W : World) (base : Nat) (args : Array Value) (ds gs : List (DataW H)) (before : List MemPlace)
    (hval : ∀ (j : Nat) t v, Tryd.f3.params[j]? = some t → args[j]? = some v → Value.okWide Tryd.prog W .any base t v)
    (hW : DataW.Whole enc Tryd.prog Tryd.f3.params.toList Rows.asmFormatsSpec.vars false W args.toList ds gs before) (hL : laidMetH Tryd.prog Rows.asmFormatsRow.laid W) (hS : W.ShapedOpen Tryd.prog) :
    Calls Tryd.prog 3 args W fun e W' => ∃ v, e = .returned v ∧ Rows.asmFormatsSpec.post enc Tryd.prog Tryd.f3 false true false false W args v W' := by
  have hW' := hW
  obtain ⟨p, q, hA0, hV, rfl, hfz, hnd⟩ := hW
  have hA : DataW.TrodAll enc Tryd.prog W 0 (fun _ => true) true Tryd.f3.params.toList args.toList ds p := hA0
  rw [Tryd.params3] at hA hval
  obtain ⟨v0, vs0, d0, ds0, p0, q0, hargs0, rfl, rfl, h0, r0⟩ := trodAll_cons hA
  obtain ⟨rfl, rfl, rfl⟩ := trodAll_nil r0
  obtain rfl : args = #[v0] := by cases args; simp_all
  obtain ⟨A0, l0, c0, rfl, i0, j0, k0, m0⟩ := open_code (hval 0 _ v0 rfl rfl) h0
  exact law_post (tb := 4) laidOut (by kernel_rfl) (by kernel_rfl) Tryd.underlying4 rfl hW' ⟨rfl, rfl, rfl⟩
    (asmFormats_walk l0 A0 c0  W i0 j0 k0 m0  (tabs_of_laid hL).1 (tabs_of_laid hL).2 (wld_of_laid hL hS))

theorem laid_met_asmFormats (os : Os) : laidMet Tryd.prog Rows.asmFormatsRow.laid ((World.laidAll Tryd.prog os Rows.asmFormatsRow.laid).forCall (fun _ _ => 0) ⟨#[], #[.slice none 0 0], []⟩).memory :=
  laidMet_laidAll _ (by kernel_rfl) (by kernel_rfl)
theorem reads_asmFormats (os : Os) {H : Type} (enc : TypeId × Value → H) : ∃ places, DataW.whole enc Tryd.prog ((World.laidAll Tryd.prog os Rows.asmFormatsRow.laid).forCall (fun _ _ => 0) ⟨#[], #[.slice none 0 0], []⟩).memory Tryd.f3.params.toList Rows.asmFormatsSpec.vars false (#[.slice none 0 0] : Array Value).toList 8 = some ([.nil], [], places) :=
  ⟨[], by kernel_rfl⟩

set_option maxRecDepth 100000 in
theorem lifted_asmFormats (os : Os) (started : os.Started) (H : Type) (enc : TypeId × Value → H) (F : Stop.Interp) :
    ReturnsInHanded {} Tryd.checked os 3 .any ((OpenSpec.ofChange Rows.asmFormatsSpec).preRow enc Tryd.prog Tryd.f3 Rows.asmFormatsRow.domain false Rows.asmFormatsRow.laid) (((OpenSpec.ofChange Rows.asmFormatsSpec).at F).post enc Tryd.prog Tryd.f3 false true false false) := by
  obtain ⟨places, hx⟩ := reads_asmFormats os enc
  refine returnsInHanded_of_row (C := Tryd.checked) (s := OpenSpec.ofChange Rows.asmFormatsSpec) own started (by kernel_rfl) Tryd.func3
    (witness_row_atRef (enc := enc) (C := Tryd.checked) false (World.laidAll Tryd.prog os Rows.asmFormatsRow.laid) #[.slice none 0 0] (World.laidAll_os _ _ _) (by kernel_rfl) (by kernel_rfl) (by kernel_rfl)
      (OpenSpec.preRow_of_cond 8 hx (by kernel_rfl) (fun k hk => by cases hk) (by kernel_rfl) (by rw [MakeChecks.laidMetH_plain _ _ _ (by kernel_rfl)]; exact laid_met_asmFormats os))) ?_
  intro W base args ds gs before hval hW _ _ _ hL hS _
  exact contract_asmFormats H enc W base args ds gs before hval hW hL hS

theorem said_asmFormats : Rows.AsmFormatsSaid :=
  OpenClaim.holds_of_cond 3 Tryd.f3 rfl rfl rfl rfl rfl rfl rfl ⟨rfl, rfl, rfl, rfl, rfl⟩ rfl rfl rfl rfl rfl (by kernel_rfl) Tryd.func3 (by kernel_rfl)
    (of_decide_eq_true (by kernel_rfl)) (by unfold Func.isWrapper; first | (rw [if_pos (by decide +kernel)]; kernel_rfl) | (rw [if_neg (by decide +kernel)]; exact ⟨rfl, rfl⟩))
    (fun os started H enc _ F => by rw [OpenClaim.pre_eq_preRow]; exact lifted_asmFormats os started H enc F)

theorem plain_asmFormats (f : FuncId) (fn : Func) (hf : Tryd.pinned.checked.prog.funcNamed "backstep/backsteplaw22.AsmFormats" = some f) (hfn : Tryd.pinned.checked.prog.funcs[f]? = some fn) :
    true = Tryd.pinned.checked.prog.looks [] ∧ ∀ (j : Nat) t, fn.params[j]? = some t → Tryd.pinned.checked.prog.wantsStandIn t = false := by
  obtain rfl : f = 3 := Option.some.inj ((show Tryd.prog.funcNamed "backstep/backsteplaw22.AsmFormats" = some 3 by kernel_rfl).symm.trans hf) |>.symm
  obtain rfl : fn = Tryd.f3 := (Option.some.inj (Tryd.func3.symm.trans hfn)).symm
  refine ⟨by kernel_rfl, fun j t ht => ?_⟩
  have hall : Tryd.f3.params.all (fun t => !Tryd.prog.wantsStandIn t) = true := by kernel_rfl
  have := Array.all_eq_true'.1 hall t (Array.mem_of_getElem? ht)
  exact (show Tryd.prog.wantsStandIn t = false by simpa using this)

/-- The card: the law's statement. -/
theorem card_asmFormats : Rows.AsmFormatsCardSaid :=
  Claim7.holds_tied_plain_at .later [] _ _ _ _ said_asmFormats (fun _ h => by cases h) (by kernel_rfl) (fun _ h => by cases h) asmFormats_row_tie rfl ⟨rfl, rfl⟩ (by kernel_rfl) rfl plain_asmFormats (by kernel_rfl)

end Go.Proofs.YtodiijoeeeeicaaDoor

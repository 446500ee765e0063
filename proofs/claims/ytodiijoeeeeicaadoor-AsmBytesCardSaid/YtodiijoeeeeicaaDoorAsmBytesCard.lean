/-
  Proved here: for every input, the law AsmBytes of layer 22 returns true (the bytes of valid code are decoded as that code, and cutting or extending them is detected), and its arguments read afterwards as before.
  Conditions: none beyond the row's own (the listed variables of the program and of Go's library are as their initialisers lay them; the card ties that to the program's text).
-/
import Derived.Test.YtodiijoeeeeicaaDoorAsmOpen
import Derived.Test.YtodiijoeeeeicaaDoorAsmL8
namespace Go.Proofs.YtodiijoeeeeicaaDoor
open Go.ChangeShapes Go.WideShapes Go.ChangeAt Go.RowKit
open Go.ChangeMaps (open_string)

set_option maxRecDepth 100000 in
theorem contract_asmBytes (H : Type) (enc : TypeId × Value → H) (W : World) (base : Nat) (args : Array Value) (ds gs : List (DataW H)) (before : List MemPlace)
    (hval : ∀ (j : Nat) t v, Tryd.f10.params[j]? = some t → args[j]? = some v → Value.okWide Tryd.prog W .any base t v)
    (hW : DataW.Whole enc Tryd.prog Tryd.f10.params.toList Rows.asmBytesSpec.vars false W args.toList ds gs before) (hL : laidMetH Tryd.prog Rows.asmBytesRow.laid W) (hS : W.ShapedOpen Tryd.prog) :
    Calls Tryd.prog 10 args W fun e W' => ∃ v, e = .returned v ∧ Rows.asmBytesSpec.post enc Tryd.prog Tryd.f10 false true false false W args v W' := by
  have hW' := hW
  obtain ⟨p, q, hA0, hV, rfl, hfz, hnd⟩ := hW
  have hA : DataW.TrodAll enc Tryd.prog W 0 (fun _ => true) true Tryd.f10.params.toList args.toList ds p := hA0
  rw [Tryd.params10] at hA hval
  obtain ⟨v0, vs0, d0, ds0, p0, q0, hargs0, rfl, rfl, h0, r0⟩ := trodAll_cons hA
  obtain ⟨v1, vs1, d1, ds1, p1, q1, hargs1, rfl, rfl, h1, r1⟩ := trodAll_cons r0
  obtain ⟨v2, vs2, d2, ds2, p2, q2, hargs2, rfl, rfl, h2, r2⟩ := trodAll_cons r1
  obtain ⟨rfl, rfl, rfl⟩ := trodAll_nil r2
  obtain rfl : args = #[v0, v1, v2] := by cases args; simp_all
  obtain ⟨A0, l0, c0, rfl, i0, j0, k0, m0⟩ := open_code (hval 0 _ v0 rfl rfl) h0
  obtain ⟨n1, rfl, rfl, _, wf1⟩ := open_int Tryd.underlying55 (hval 1 _ v1 rfl rfl) h1
  obtain ⟨b1, hb1, rfl⟩ := wf_u16 wf1
  obtain ⟨n2, rfl, rfl, _, wf2⟩ := open_int Tryd.underlying5 (hval 2 _ v2 rfl rfl) h2
  obtain ⟨b2, hb2, rfl⟩ := wf8_of wf2
  exact law_post (tb := 4) laidOut (by kernel_rfl) (by kernel_rfl) Tryd.underlying4 rfl hW' ⟨rfl, rfl, rfl⟩
    (asmBytes_walk l0 A0 c0 b1 b2 hb1 hb2 W i0 j0 k0 m0  (tabs_of_laid hL).1 (tabs_of_laid hL).2 (wld_of_laid hL hS))

theorem laid_met_asmBytes (os : Os) : laidMet Tryd.prog Rows.asmBytesRow.laid ((World.laidAll Tryd.prog os Rows.asmBytesRow.laid).forCall (fun _ _ => 0) ⟨#[], #[.slice none 0 0, .int .u16 0, .int .u8 0], []⟩).memory :=
  laidMet_laidAll _ (by kernel_rfl) (by kernel_rfl)
theorem reads_asmBytes (os : Os) {H : Type} (enc : TypeId × Value → H) : ∃ places, DataW.whole enc Tryd.prog ((World.laidAll Tryd.prog os Rows.asmBytesRow.laid).forCall (fun _ _ => 0) ⟨#[], #[.slice none 0 0, .int .u16 0, .int .u8 0], []⟩).memory Tryd.f10.params.toList Rows.asmBytesSpec.vars false (#[.slice none 0 0, .int .u16 0, .int .u8 0] : Array Value).toList 8 = some ([.nil, .lit (.int .u16 0), .lit (.int .u8 0)], [], places) :=
  ⟨[], by kernel_rfl⟩

set_option maxRecDepth 100000 in
theorem lifted_asmBytes (os : Os) (started : os.Started) (H : Type) (enc : TypeId × Value → H) (F : Stop.Interp) :
    ReturnsInHanded {} Tryd.checked os 10 .any ((OpenSpec.ofChange Rows.asmBytesSpec).preRow enc Tryd.prog Tryd.f10 Rows.asmBytesRow.domain false Rows.asmBytesRow.laid) (((OpenSpec.ofChange Rows.asmBytesSpec).at F).post enc Tryd.prog Tryd.f10 false true false false) := by
  obtain ⟨places, hx⟩ := reads_asmBytes os enc
  refine returnsInHanded_of_row (C := Tryd.checked) (s := OpenSpec.ofChange Rows.asmBytesSpec) own started (by kernel_rfl) Tryd.func10
    (witness_row_atRef (enc := enc) (C := Tryd.checked) false (World.laidAll Tryd.prog os Rows.asmBytesRow.laid) #[.slice none 0 0, .int .u16 0, .int .u8 0] (World.laidAll_os _ _ _) (by kernel_rfl) (by kernel_rfl) (by kernel_rfl)
      (OpenSpec.preRow_of_cond 8 hx (by kernel_rfl) (fun k hk => by cases hk) (by kernel_rfl) (by rw [MakeChecks.laidMetH_plain _ _ _ (by kernel_rfl)]; exact laid_met_asmBytes os))) ?_
  intro W base args ds gs before hval hW _ _ _ hL hS _
  exact contract_asmBytes H enc W base args ds gs before hval hW hL hS

theorem said_asmBytes : Rows.AsmBytesSaid :=
  OpenClaim.holds_of_cond 10 Tryd.f10 rfl rfl rfl rfl rfl rfl rfl ⟨rfl, rfl, rfl, rfl, rfl⟩ rfl rfl rfl rfl rfl (by kernel_rfl) Tryd.func10 (by kernel_rfl)
    (of_decide_eq_true (by kernel_rfl)) (by unfold Func.isWrapper; first | (rw [if_pos (by decide +kernel)]; kernel_rfl) | (rw [if_neg (by decide +kernel)]; exact ⟨rfl, rfl⟩))
    (fun os started H enc _ F => by rw [OpenClaim.pre_eq_preRow]; exact lifted_asmBytes os started H enc F)

theorem plain_asmBytes (f : FuncId) (fn : Func) (hf : Tryd.pinned.checked.prog.funcNamed "backstep/backsteplaw22.AsmBytes" = some f) (hfn : Tryd.pinned.checked.prog.funcs[f]? = some fn) :
    true = Tryd.pinned.checked.prog.looks [] ∧ ∀ (j : Nat) t, fn.params[j]? = some t → Tryd.pinned.checked.prog.wantsStandIn t = false := by
  obtain rfl : f = 10 := Option.some.inj ((show Tryd.prog.funcNamed "backstep/backsteplaw22.AsmBytes" = some 10 by kernel_rfl).symm.trans hf) |>.symm
  obtain rfl : fn = Tryd.f10 := (Option.some.inj (Tryd.func10.symm.trans hfn)).symm
  refine ⟨by kernel_rfl, fun j t ht => ?_⟩
  have hall : Tryd.f10.params.all (fun t => !Tryd.prog.wantsStandIn t) = true := by kernel_rfl
  have := Array.all_eq_true'.1 hall t (Array.mem_of_getElem? ht)
  exact (show Tryd.prog.wantsStandIn t = false by simpa using this)

/-- The card: the law's statement. -/
theorem card_asmBytes : Rows.AsmBytesCardSaid :=
  Claim7.holds_tied_plain_at .later [] _ _ _ _ said_asmBytes (fun _ h => by cases h) (by kernel_rfl) (fun _ h => by cases h) asmBytes_row_tie rfl ⟨rfl, rfl⟩ (by kernel_rfl) rfl plain_asmBytes (by kernel_rfl)

end Go.Proofs.YtodiijoeeeeicaaDoor

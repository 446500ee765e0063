/-
  Proved here: for every input, the law AnfFuel of layer 38 returns true (more fuel does not change a value or an error other than ErrFuel, and a negative fuel counts as none), and its arguments read afterwards as before.
  Conditions: the row's own: what the arguments hold is of bulk at most 1048576, and the listed variables of Go's library are as their initialisers lay them (the card ties that to the program's text).
-/
import Derived.Test.YtcoeakdpcigogaaDoorAnfOpen
namespace Go.Proofs.YtcoeakdpcigogaaDoor
open Go.ChangeShapes Go.WideShapes Go.ChangeAt Go.RowKit
open Go.ChangeMaps (open_string)

set_option maxRecDepth 100000 in
theorem contract_anfFuel (H : Type) (enc : TypeId × Value → H) (W : World) (base : Nat) (args : Array Value) (ds gs : List (DataW H)) (before : List MemPlace)
    (hval : ∀ (j : Nat) t v, Tryd.f5.params[j]? = some t → args[j]? = some v → Value.okWide Tryd.prog W .any base t v)
    (hW : DataW.Whole enc Tryd.prog Tryd.f5.params.toList Rows.anfFuelSpec.vars false W args.toList ds gs before) (hcond : Rows.uptoSmall H (ds ++ gs) = true) (hL : laidMetH Tryd.prog Rows.anfFuelUptoRow.laid W) :
    Calls Tryd.prog 5 args W fun e W' => ∃ v, e = .returned v ∧ Rows.anfFuelSpec.post enc Tryd.prog Tryd.f5 false true false false W args v W' := by
  have hW' := hW
  obtain ⟨p, q, hA0, hV, rfl, hfz, hnd⟩ := hW
  have hA : DataW.TrodAll enc Tryd.prog W 0 (fun _ => true) true Tryd.f5.params.toList args.toList ds p := hA0
  rw [Tryd.params5] at hA hval
  obtain ⟨v0, vs0, d0, ds0, p0, q0, hargs0, rfl, rfl, h0, r0⟩ := trodAll_cons hA
  obtain ⟨v1, vs1, d1, ds1, p1, q1, rfl, rfl, rfl, h1, r1⟩ := trodAll_cons r0
  obtain ⟨v2, vs2, d2, ds2, p2, q2, rfl, rfl, rfl, h2, r2⟩ := trodAll_cons r1
  obtain ⟨v3, vs3, d3, ds3, p3, q3, rfl, rfl, rfl, h3, r3⟩ := trodAll_cons r2
  obtain ⟨v4, vs4, d4, ds4, p4, q4, rfl, rfl, rfl, h4, r4⟩ := trodAll_cons r3
  obtain ⟨rfl, rfl, rfl⟩ := trodAll_nil r4
  obtain rfl : args = #[v0, v1, v2, v3, v4] := by cases args; simp_all
  have hbk : Rows.uptoBulk d0 ≤ 1048576 := by
    simp only [Rows.uptoSmall, List.cons_append, Rows.uptoBulkAll, decide_eq_true_eq] at hcond
    omega
  obtain ⟨A0, l0, c0, rfl, hL0, hn0, ho0⟩ := open_afs (hval 0 _ v0 rfl rfl) h0 hbk
  obtain ⟨s1, rfl, -, -, w1⟩ := open_string Tryd.underlying9 (hval 1 _ v1 rfl rfl) h1
  obtain ⟨A2, l2, c2, rfl, i2, j2, k2⟩ := open_vals (hval 2 _ v2 rfl rfl) h2
  obtain ⟨n3, rfl, -, -, w3⟩ := open_int Tryd.underlying3 (hval 3 _ v3 rfl rfl) h3
  obtain ⟨n4, rfl, -, -, w4⟩ := open_int Tryd.underlying5 (hval 4 _ v4 rfl rfl) h4
  obtain ⟨m4, hm4, rfl⟩ := wf_u8 w4
  exact law_post (tb := 4) laidOut (by kernel_rfl) (by kernel_rfl) Tryd.underlying4 rfl hW' ⟨rfl, rfl, rfl⟩
    (law_fuel (wld_of_laid hL) l0 A0 c0 hL0 hn0 ho0 s1 l2 A2 c2 i2 k2 j2 n3 m4 hm4)

theorem laid_met_anfFuel (os : Os) : laidMet Tryd.prog Rows.anfFuelUptoRow.laid ((World.laidAll Tryd.prog os Rows.anfFuelUptoRow.laid).forCall (fun _ _ => 0) ⟨#[], #[.slice none 0 0, .string ⟨#[]⟩, .slice none 0 0, .int .i64 0, .int .u8 0], []⟩).memory :=
  laidMet_laidAll _ (by kernel_rfl) (by kernel_rfl)
theorem reads_anfFuel (os : Os) {H : Type} (enc : TypeId × Value → H) : ∃ places, DataW.whole enc Tryd.prog ((World.laidAll Tryd.prog os Rows.anfFuelUptoRow.laid).forCall (fun _ _ => 0) ⟨#[], #[.slice none 0 0, .string ⟨#[]⟩, .slice none 0 0, .int .i64 0, .int .u8 0], []⟩).memory Tryd.f5.params.toList Rows.anfFuelSpec.vars false (#[.slice none 0 0, .string ⟨#[]⟩, .slice none 0 0, .int .i64 0, .int .u8 0] : Array Value).toList 8 = some ([.nil, .lit (.string []), .nil, .lit (.int .i64 0), .lit (.int .u8 0)], [], places) :=
  ⟨[], by kernel_rfl⟩

set_option maxRecDepth 100000 in
theorem lifted_anfFuel (os : Os) (started : os.Started) (H : Type) (enc : TypeId × Value → H) (F : Stop.Interp) :
    ReturnsInHanded {} Tryd.checked os 5 .any ((Rows.OpenSpec.upto Rows.anfFuelSpec).preRow enc Tryd.prog Tryd.f5 Rows.anfFuelUptoRow.domain false Rows.anfFuelUptoRow.laid) (((Rows.OpenSpec.upto Rows.anfFuelSpec).at F).post enc Tryd.prog Tryd.f5 false true false false) := by
  obtain ⟨places, hx⟩ := reads_anfFuel os enc
  refine returnsInHanded_of_row (C := Tryd.checked) (s := Rows.OpenSpec.upto Rows.anfFuelSpec) own started (by kernel_rfl) Tryd.func5
    (witness_row_atRef (enc := enc) (C := Tryd.checked) false (World.laidAll Tryd.prog os Rows.anfFuelUptoRow.laid) #[.slice none 0 0, .string ⟨#[]⟩, .slice none 0 0, .int .i64 0, .int .u8 0] (World.laidAll_os _ _ _) (by kernel_rfl) (by kernel_rfl) (by kernel_rfl)
      (OpenSpec.preRow_of_cond 8 hx (by kernel_rfl) (fun k hk => by cases hk; kernel_rfl) (by kernel_rfl) (by rw [MakeChecks.laidMetH_plain _ _ _ (by kernel_rfl)]; exact laid_met_anfFuel os))) ?_
  intro W base args ds gs before hval hW _ hcond _ hL _ _
  exact contract_anfFuel H enc W base args ds gs before hval hW (hcond _ rfl) hL

theorem said_anfFuel : Rows.AnfFuelUptoSaid :=
  OpenClaim.holds_of_cond 5 Tryd.f5 rfl rfl rfl rfl rfl rfl rfl ⟨rfl, rfl, rfl, rfl, rfl⟩ rfl rfl rfl rfl rfl (by kernel_rfl) Tryd.func5 (by kernel_rfl)
    (of_decide_eq_true (by kernel_rfl)) (by unfold Func.isWrapper; first | (rw [if_pos (by decide +kernel)]; kernel_rfl) | (rw [if_neg (by decide +kernel)]; exact ⟨rfl, rfl⟩))
    (fun os started H enc _ F => by rw [OpenClaim.pre_eq_preRow]; exact lifted_anfFuel os started H enc F)

theorem plain_anfFuel (f : FuncId) (fn : Func) (hf : Tryd.pinned.checked.prog.funcNamed "backstep/backsteplaw38.AnfFuel" = some f) (hfn : Tryd.pinned.checked.prog.funcs[f]? = some fn) :
    true = Tryd.pinned.checked.prog.looks [] ∧ ∀ (j : Nat) t, fn.params[j]? = some t → Tryd.pinned.checked.prog.wantsStandIn t = false := by
  obtain rfl : f = 5 := Option.some.inj ((show Tryd.prog.funcNamed "backstep/backsteplaw38.AnfFuel" = some 5 by kernel_rfl).symm.trans hf) |>.symm
  obtain rfl : fn = Tryd.f5 := (Option.some.inj (Tryd.func5.symm.trans hfn)).symm
  refine ⟨by kernel_rfl, fun j t ht => ?_⟩
  have hall : Tryd.f5.params.all (fun t => !Tryd.prog.wantsStandIn t) = true := by kernel_rfl
  have := Array.all_eq_true'.1 hall t (Array.mem_of_getElem? ht)
  exact (show Tryd.prog.wantsStandIn t = false by simpa using this)

/-- The card: the law's statement. -/
theorem card_anfFuel : Rows.AnfFuelUptoCardSaid :=
  Claim7.holds_tied_plain_at .later [] _ _ _ _ said_anfFuel (fun _ h => by cases h) (by kernel_rfl) (fun _ h => by cases h) anfFuelUpto_row_tie rfl ⟨rfl, rfl⟩ (by kernel_rfl) rfl plain_anfFuel (by kernel_rfl)

end Go.Proofs.YtcoeakdpcigogaaDoor

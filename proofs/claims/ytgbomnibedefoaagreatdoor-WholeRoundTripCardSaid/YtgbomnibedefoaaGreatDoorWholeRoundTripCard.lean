/-
  Proved here: for every input, the law WholeRoundTrip returns true (a main block followed by its inverse changes nothing, in twice as many steps), and its arguments read afterwards as before.
  Conditions: none beyond the row's own (the listed variables of the program and of Go's library are as their initialisers lay them; the card ties that to the program's text).
-/
import Derived.Test.YtgbomnibedefoaaGreatDoorQa48
set_option maxRecDepth 100000
set_option maxHeartbeats 8000000
set_option maxRecDepth 100000
set_option maxHeartbeats 8000000
set_option maxRecDepth 100000
set_option maxHeartbeats 8000000
namespace Go.Proofs.YtgbomnibedefoaaGreatDoor
open Go.ChangeShapes Go.WideShapes Go.ChangeAt Go.RowKit
theorem contract_wholeRoundTrip (H:Type) (enc:TypeId × Value→H) (W:World) (base:Nat) (args:Array Value) (ds gs:List (DataW H)) (before:List MemPlace)
 (hval:∀ (j:Nat) t v,Tryz.f3.params[j]?=some t→args[j]?=some v→Value.okWide Tryz.prog W .any base t v)
 (hW:DataW.Whole enc Tryz.prog Tryz.f3.params.toList Rows.wholeRoundTripSpec.vars false W args.toList ds gs before) (hL:laidMetH Tryz.prog Rows.wholeRoundTripRow.laid W) (_hS:W.ShapedOpen Tryz.prog) :
 Calls Tryz.prog 3 args W fun e W'=>∃ v,e=.returned v∧Rows.wholeRoundTripSpec.post enc Tryz.prog Tryz.f3 false true false false W args v W':=by
 have hW':=hW
 obtain ⟨p,q,hA0,hV,rfl,hfz,hnd⟩:=hW
 have hA:DataW.TrodAll enc Tryz.prog W 0 (fun _=>true) true Tryz.f3.params.toList args.toList ds p:=hA0
 rw [Tryz.params3] at hA hval
 obtain ⟨v0,vs0,d0,ds0,p0,q0,hargs0,rfl,rfl,h0,r0⟩:=trodAll_cons hA
 obtain ⟨v1,vs1,d1,ds1,p1,q1,hargs1,rfl,rfl,h1,r1⟩:=trodAll_cons r0
 obtain ⟨rfl,rfl,rfl⟩:=trodAll_nil r1
 obtain rfl:args=#[v0,v1]:=by cases args;simp_all
 obtain ⟨P,Av,Ap,Am,cv,cp,cm,rfl,hP,hF,hSl⟩:=open_prog (hval 0 _ v0 rfl rfl) h0
 obtain ⟨S,Ac,Ai,Ao,c1,c2,c3,rfl,hS,hSF,hSR⟩:=open_state (hval 1 _ v1 rfl rfl) h1
 exact law_post (tb:=4) laidOut (by kernel_rfl) (by kernel_rfl) Tryz.underlying4 rfl hW' ⟨rfl,rfl,rfl⟩
  (law_any ⟨hF,hSF,hSR,hP,hS,hSl,sym_of_laid hL⟩)
theorem laid_met_wholeRoundTrip (os:Os):laidMet Tryz.prog Rows.wholeRoundTripRow.laid ((World.laidAll Tryz.prog os Rows.wholeRoundTripRow.laid).forCall (fun _ _=>0) ⟨#[],#[.agg #[.slice none 0 0,.slice none 0 0,.int .u8 0,.int .i64 0,.string ⟨#[]⟩,.slice none 0 0],.agg #[.slice none 0 0,.slice none 0 0,.slice none 0 0]],[]⟩).memory:=
 laidMet_laidAll _ (by kernel_rfl) (by kernel_rfl)
theorem reads_wholeRoundTrip (os:Os) {H:Type} (enc:TypeId × Value→H):∃ places,DataW.whole enc Tryz.prog ((World.laidAll Tryz.prog os Rows.wholeRoundTripRow.laid).forCall (fun _ _=>0) ⟨#[],#[.agg #[.slice none 0 0,.slice none 0 0,.int .u8 0,.int .i64 0,.string ⟨#[]⟩,.slice none 0 0],.agg #[.slice none 0 0,.slice none 0 0,.slice none 0 0]],[]⟩).memory Tryz.f3.params.toList Rows.wholeRoundTripSpec.vars false (#[.agg #[.slice none 0 0,.slice none 0 0,.int .u8 0,.int .i64 0,.string ⟨#[]⟩,.slice none 0 0],.agg #[.slice none 0 0,.slice none 0 0,.slice none 0 0]]:Array Value).toList 8=some ([.agg [.nil,.nil,.agg [.lit (.int .u8 0),.lit (.int .i64 0),.lit (.string []),.nil]],.agg [.nil,.nil,.nil]],[],places):=
 ⟨[],by kernel_rfl⟩
theorem lifted_wholeRoundTrip (os:Os) (started:os.Started) (H:Type) (enc:TypeId × Value→H) (F:Stop.Interp) :
 ReturnsInHanded {} Tryz.checked os 3 .any ((OpenSpec.ofChange Rows.wholeRoundTripSpec).preRow enc Tryz.prog Tryz.f3 Rows.wholeRoundTripRow.domain false Rows.wholeRoundTripRow.laid) (((OpenSpec.ofChange Rows.wholeRoundTripSpec).at F).post enc Tryz.prog Tryz.f3 false true false false):=by
 obtain ⟨places,hx⟩:=reads_wholeRoundTrip os enc
 refine returnsInHanded_of_row (C:=Tryz.checked) (s:=OpenSpec.ofChange Rows.wholeRoundTripSpec) own started (by kernel_rfl) Tryz.func3
  (witness_row_atRef (enc:=enc) (C:=Tryz.checked) false (World.laidAll Tryz.prog os Rows.wholeRoundTripRow.laid) #[.agg #[.slice none 0 0,.slice none 0 0,.int .u8 0,.int .i64 0,.string ⟨#[]⟩,.slice none 0 0],.agg #[.slice none 0 0,.slice none 0 0,.slice none 0 0]] (World.laidAll_os _ _ _) (by kernel_rfl) (by kernel_rfl) (by kernel_rfl)
   (OpenSpec.preRow_of_cond 8 hx (by kernel_rfl) (fun k hk=>by cases hk) (by kernel_rfl) (by rw [MakeChecks.laidMetH_plain _ _ _ (by kernel_rfl)];exact laid_met_wholeRoundTrip os))) ?_
 intro W base args ds gs before hval hW _ _ _ hL hS _
 exact contract_wholeRoundTrip H enc W base args ds gs before hval hW hL hS
theorem said_wholeRoundTrip:Rows.WholeRoundTripSaid:=
 OpenClaim.holds_of_cond 3 Tryz.f3 rfl rfl rfl rfl rfl rfl rfl ⟨rfl,rfl,rfl,rfl,rfl⟩ rfl rfl rfl rfl rfl (by kernel_rfl) Tryz.func3 (by kernel_rfl)
  (of_decide_eq_true (by kernel_rfl)) (by unfold Func.isWrapper;first | (rw [if_pos (by decide +kernel)];kernel_rfl) | (rw [if_neg (by decide +kernel)];exact ⟨rfl,rfl⟩))
  (fun os started H enc _ F=>by rw [OpenClaim.pre_eq_preRow];exact lifted_wholeRoundTrip os started H enc F)
theorem plain_wholeRoundTrip (f : FuncId) (fn : Func) (hf : Tryz.pinned.checked.prog.funcNamed "backstep/backsteptop.WholeRoundTrip" = some f) (hfn : Tryz.pinned.checked.prog.funcs[f]? = some fn) :
 true=Tryz.pinned.checked.prog.looks []∧∀ (j:Nat) t,fn.params[j]?=some t→Tryz.pinned.checked.prog.wantsStandIn t=false:=by
 obtain rfl : f = 3 := Option.some.inj ((show Tryz.prog.funcNamed "backstep/backsteptop.WholeRoundTrip" = some 3 by kernel_rfl).symm.trans hf) |>.symm
 obtain rfl:fn=Tryz.f3:=(Option.some.inj (Tryz.func3.symm.trans hfn)).symm
 refine ⟨by kernel_rfl,fun j t ht=>?_⟩
 have hall:Tryz.f3.params.all (fun t=>!Tryz.prog.wantsStandIn t)=true:=by kernel_rfl
 have:=Array.all_eq_true'.1 hall t (Array.mem_of_getElem? ht)
 exact (show Tryz.prog.wantsStandIn t=false by simpa using this)
theorem card_wholeRoundTrip:Rows.WholeRoundTripCardSaid:=
 Claim7.holds_tied_plain_at .later [] _ _ _ _ said_wholeRoundTrip (fun _ h=>by cases h) (by kernel_rfl) (fun _ h=>by cases h) wholeRoundTrip_row_tie rfl ⟨rfl,rfl⟩ (by kernel_rfl) rfl plain_wholeRoundTrip (by kernel_rfl)
end Go.Proofs.YtgbomnibedefoaaGreatDoor

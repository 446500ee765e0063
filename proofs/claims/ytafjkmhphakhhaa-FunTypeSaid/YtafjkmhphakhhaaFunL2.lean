/-
  The walk of the law FunType.
-/
import Derived.Test.YtafjkmhphakhhaaFunAwake
import Derived.Test.YtafjkmhphakhhaaFunSmall
import Derived.Test.YtafjkmhphakhhaaFunRChk
namespace Go.Proofs.Ytafjkmhphakhhaa
open Go.ChangeShapes Go.WideShapes Go.ChangeAt Go.RowKit Go.Sort

set_option maxRecDepth 100000 in
set_option maxHeartbeats 2000000 in
theorem funType_walk (lib : List Fn1) (A : Option Addr) (cap : Nat) (f : Int) (x : Nd) (Ak : Option Addr) (ck : Nat) (w : World) (hL : LibAt w A lib) (hF : LibFit lib) (hK : NdsAt w Ak x.kids) (hfit : NdFit x) :
    Calls Try.prog 4 #[.slice A lib.length cap, .int .i64 f, .agg #[.int .u8 x.kind, .int .i64 x.num, .string x.name, .slice Ak x.kids.length ck]] w fun e w' => e = .returned (.bool true) ∧ Below w.heap.size w w' := by
  have hbW := below_box w (Obj.cells #[.int .u8 x.kind, .int .i64 x.num, .string x.name, .slice Ak x.kids.length ck] 32)
  have bx := Lib.hid (ndB_box w 32 x Ak ck hK)
  have HL := Lib.hid hL
  clear hK hL
  go_enter Try.func4, Try.ntmps4
  go_wp2_with fail
  generalize w.alloc _ = W at hbW bx ⊢
  refine (awake_any W).mono ?_
  rintro e w1 ⟨rfl, hb1⟩
  have q1 := Lib.hid (below_step hbW hbW.size hb1)
  have bx1 := Lib.hid (bx.out.mono hb1)
  clear hbW hb1 bx
  go_wp2_with fail
  refine (great_any lib A cap w1 (HL.out.mono q1.out) hF).mono ?_
  rintro e w2 ⟨rfl, hb2⟩
  have q2 := Lib.hid (below_step q1.out q1.out.size hb2)
  have bx2 := Lib.hid (bx1.out.mono hb2)
  clear hb2 q1 bx1
  cases hg : greatB lib with
  | true =>
    go_wp2_with fail
    go_ret
    exact ⟨rfl, q2.out⟩
  | false =>
  obtain ⟨h40, hP, hN, hS⟩ := great_no hg
  clear hS hg
  obtain ⟨b0, b1, b2, b3, _⟩ := bx2.out
  go_wp2_with fail
  refine (big_any 100 x (by omega) hfit Ak ck w2 bx2.out.kids).mono ?_
  rintro e w3 ⟨rfl, hb3⟩
  have q3 := Lib.hid (below_step q2.out q2.out.size hb3)
  have bx3 := Lib.hid (bx2.out.mono hb3)
  clear hb3 q2 bx2 b0 b1 b2 b3
  obtain ⟨b0, b1, b2, b3, _⟩ := bx3.out
  by_cases hbg : bigD 100 x < 0
  · generalize bigD 100 x = bg at *
    go_wp2_with fail
    go_ret
    exact ⟨rfl, q3.out⟩
  go_wp2_with fail
  refine (big_any 100 x (by omega) hfit Ak ck w3 bx3.out.kids).mono ?_
  rintro e w4 ⟨rfl, hb4⟩
  have q4 := Lib.hid (below_step q3.out q3.out.size hb4)
  have bx4 := Lib.hid (bx3.out.mono hb4)
  clear hb4 q3 bx3 b0 b1 b2 b3
  obtain ⟨b0, b1, b2, b3, _⟩ := bx4.out
  have hsz : sizeT x = bigD 100 x := (bigD_size x 100 (by omega)).symm
  by_cases hb60 : 200 < bigD 100 x
  · generalize bigD 100 x = bg at *
    go_wp2_with fail
    go_ret
    exact ⟨rfl, q4.out⟩
  have hs60 : sizeT x ≤ 200 := by omega
  clear hsz
  generalize bigD 100 x = bg at *
  go_wp2_with fail
  refine (type_any lib A cap f x Ak ck w4 (HL.out.mono q4.out) hF hP hfit bx4.out.kids (by omega)).mono ?_
  rintro e w5 ⟨rfl, hb5⟩
  have q5 := Lib.hid (below_step q4.out q4.out.size hb5)
  have bx5 := Lib.hid (bx4.out.mono hb5)
  clear hb5 q4 bx4 b0 b1 b2 b3
  have HT := Lib.hid (typeR.eq_def lib f x)
  by_cases hr : f < 0 ∨ (lib.length : Int) ≤ f
  · rw [if_pos hr] at HT
    rw [HT.out]
    rcases hr with h0 | h1
    · go_wp2_with fail
      go_ret
      exact ⟨rfl, q5.out⟩
    · have h0 : ¬ f < 0 := by omega
      go_wp2_with fail
      go_ret
      exact ⟨rfl, q5.out⟩
  rw [if_neg hr] at HT
  have h0 : ¬ f < 0 := by omega
  have h1 : ¬ (lib.length : Int) ≤ f := by omega
  obtain ⟨i, rfl⟩ : ∃ i : Nat, f = i := ⟨f.toNat, by omega⟩
  have hi : i < lib.length := by omega
  clear hr
  obtain ⟨b, o, rfl, hfo⟩ := (HL.out.mono q5.out).at_ hi
  have hget : lib[i]? = some lib[i] := List.getElem?_eq_getElem hi
  have hpp := hP i _ hget
  rw [Int.toNat_natCast, hget] at HT
  generalize lib[i] = g at *
  clear hget
  obtain ⟨b0, b1, b2, b3, _⟩ := bx5.out
  have HT : Hid (typeR lib i x = if formT x = false then (false, 3) else chkT lib x (envF g.params)) := HT
  have HFO := Lib.hid hfo
  clear hfo
  rw [HT.out]
  cases hfm : formT x with
  | false =>
    rw [if_pos rfl]
    go_wp2_with fail
    refine (rform_any _ x (Nat.le_refl _) hfit Ak ck w5 bx5.out.kids).mono ?_
    rintro e w6 ⟨rfl, hb6⟩
    rw [hfm]
    go_wp2_with fail
    go_ret
    exact ⟨rfl, below_step q5.out q5.out.size hb6⟩
  | true =>
    rw [if_neg (by simp)]
    generalize hc1 : (chkT lib x (envF g.params)).1 = t1 at *
    generalize hc2 : (chkT lib x (envF g.params)).2 = t2 at *
    have HC1 := Lib.hid hc1
    have HC2 := Lib.hid hc2
    clear hc1 hc2
    go_wp2_with fail
    refine (rform_any _ x (Nat.le_refl _) hfit Ak ck w5 bx5.out.kids).mono ?_
    rintro e w6 ⟨rfl, hb6⟩
    rw [hfm]
    have q6 := Lib.hid (below_step q5.out q5.out.size hb6)
    have bx6 := Lib.hid (bx5.out.mono hb6)
    have hf6 := HFO.out.mono hb6
    have hlt := hf6.lt
    obtain ⟨c0, ⟨A1, cp1, c1, hps⟩, c2, hbody⟩ := hf6
    have HPS := Lib.hid hps
    clear c0 c2 hbody hps b0 b1 b2 b3 hb6 bx5 q5 HFO
    obtain ⟨b0, b1, b2, b3, hk6⟩ := bx6.out
    have HK6 := Lib.hid hk6
    have r1 : (0 : Int) ≤ i := by omega
    have r2 : (i : Int) < lib.length := by omega
    clear hk6
    have e1 := cell_regrown c1
    have e2 := cell_regrown b0
    have e3 := cell_regrown b1
    have e4 := cell_regrown b2
    have e5 := cell_regrown b3
    go_wp2_with fail
    refine wp_region_quiet_below (by kernel_rfl) (by kernel_rfl) ?_
    repeat (first | go_big_quiet_step ((go_at_call 18; exact Calls.regrown_of (rchk_any lib _ cap hF _ x (Nat.le_refl _) hfit hfm g.params A1 cp1 Ak ck _ (HL.out.mono (below_step q6.out q6.out.size (below_regrown _ _ _))) (HPS.out.mono (below_regrown _ _ _)) (HK6.out.mono (below_regrown _ _ _)) (by omega)))) | quiet_step ((go_at_call 18; exact Calls.regrown_of (rchk_any lib _ cap hF _ x (Nat.le_refl _) hfit hfm g.params A1 cp1 Ak ck _ (HL.out.mono (below_step q6.out q6.out.size (below_regrown _ _ _))) (HPS.out.mono (below_regrown _ _ _)) (HK6.out.mono (below_regrown _ _ _)) (by omega)))))
    refine wpQuiet_nil ?_
    intro w7 hw'
    obtain ⟨⟨dq, osq⟩, hw''⟩ := hw'
    have hb7 := below_regrown w6 dq osq
    rw [← hw''] at hb7
    clear hw''
    rw [HC1.out, HC2.out]
    have t2e : (t2 == t2) = true := by simp
    cases t1
    all_goals
      go_wp2_with fail
      go_ret
      exact ⟨rfl, below_step q6.out q6.out.size hb7⟩

end Go.Proofs.Ytafjkmhphakhhaa

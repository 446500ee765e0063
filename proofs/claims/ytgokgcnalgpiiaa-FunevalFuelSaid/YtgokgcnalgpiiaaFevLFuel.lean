/-
  The walk of the law FunevalFuel.
-/
import Derived.Test.YtgokgcnalgpiiaaFevL0
namespace Go.Proofs.Ytgokgcnalgpiiaa
open Go.ChangeShapes Go.WideShapes Go.ChangeAt Go.RowKit Go.Sort Go.Maps

set_option maxRecDepth 100000 in
set_option maxHeartbeats 2000000 in
theorem funevalFuel_walk (lib : List Fn1) (A : Option Addr) (cap : Nat) (name : ByteArray) (args : List Vl) (Aa : Option Addr) (ca : Nat) (a b : Int) (w : World) (hL : LibAt w A lib) (hF : LibFit lib) (hV : VlsX w (fun _ => False) Aa args) (hvl : ∀ v ∈ args, v.l.length ≤ 9223372036854775807) (hal : args.length ≤ 9223372036854775807) (ha : -9223372036854775808 ≤ a) (hb : -9223372036854775808 ≤ b) :
    Calls Try.prog 6 #[.slice A lib.length cap, .string name, .slice Aa args.length ca, .int .i64 a, .int .i64 b] w fun e w' => e = .returned (.bool true) ∧ Below w.heap.size w w' := by
  have HL := Lib.hid hL
  have HV := Lib.hid hV
  have HVL := Lib.hid hvl
  clear hL hV hvl
  go_enter Try.func6, Try.ntmps6
  go_wp2_with fail
  refine (awake_any w).mono ?_
  rintro e w1 ⟨rfl, hb1⟩
  have q1 := Lib.hid hb1
  clear hb1
  go_wp2_with fail
  refine (Great_any lib A cap args Aa ca w1 (HL.out.mono q1.out) hF (HV.out.mono q1.out) HVL.out hal).mono ?_
  rintro e w2 ⟨g, rfl, hg, hb2⟩
  have q2 := Lib.hid (below_step q1.out q1.out.size hb2)
  have HG := Lib.hid hg
  clear hb2 hg q1
  cases g with
  | true =>
    by_cases h1 : 2000 < a <;> by_cases h2 : 2000 < b <;> (go_wp2_with fail; go_ret; exact ⟨rfl, q2.out⟩)
  | false =>
    by_cases h1 : 2000 < a
    · by_cases h2 : 2000 < b <;> (go_wp2_with fail; go_ret; exact ⟨rfl, q2.out⟩)
    by_cases h2 : 2000 < b
    · go_wp2_with fail; go_ret; exact ⟨rfl, q2.out⟩
    have HS := Lib.hid (HG.out rfl)
    have HSH := Lib.hid (fun (x y : Int) (h : x ≤ y) => startR_sh lib name args h)
    obtain ⟨sh, hsh⟩ : ∃ sh : Int → OutT, sh = startR lib name args := ⟨_, rfl⟩
    rw [← hsh] at HSH
    have HC := Lib.hid hsh
    clear hsh HG
    rcases Int.lt_trichotomy a b with hab | hab | hab
    · have HSX := Lib.hid (HSH.out a b (by omega))
      clear HSH
      go_wp2_with fail
      refine (call_v lib A cap name args Aa ca sh HC.out a w2 (HL.out.mono q2.out) hF HS.out (HV.out.mono q2.out) (by omega)).mono ?_
      rintro e w3 ⟨hb3, hl3, _, A3, c3, hi3, rfl⟩
      have q3 := Lib.hid (below_step q2.out q2.out.size hb3)
      have I3 := Lib.hid hi3.at_
      have hc3 := hi3.1
      clear hb3 q2 hi3
      have bb4 := below_box w3 (Obj.cells #[.bool (sh a).val.list, .int .i64 (sh a).val.n, .slice A3 (sh a).val.l.length c3] 29)
      have vb4 := bx_new w3 #[.bool (sh a).val.list, .int .i64 (sh a).val.n, .slice A3 (sh a).val.l.length c3] 29
      have q4 := Lib.hid (below_step q3.out q3.out.size bb4)
      have I4 := Lib.hid (I3.out.mono bb4)
      clear bb4 I3 q3
      go_wp2_with fail
      generalize World.alloc _ _ = W4 at vb4 q4 I4 ⊢
      refine (call_v lib A cap name args Aa ca sh HC.out b W4 (HL.out.mono q4.out) hF HS.out (HV.out.mono q4.out) (by omega)).mono ?_
      rintro e w5 ⟨hb5, hl5, _, A5, c5, hi5, rfl⟩
      have q5 := Lib.hid (below_step q4.out q4.out.size hb5)
      have I5 := Lib.hid hi5.at_
      have I45 := Lib.hid (I4.out.mono hb5)
      have vb5 := vb4.below hb5
      clear hb5 q4 hi5 I4 vb4 HC
      have bb6 := below_box w5 (Obj.cells #[.bool (sh b).val.list, .int .i64 (sh b).val.n, .slice A5 (sh b).val.l.length c5] 29)
      have vb6 := bx_new w5 #[.bool (sh b).val.list, .int .i64 (sh b).val.n, .slice A5 (sh b).val.l.length c5] 29
      have q6 := Lib.hid (below_step q5.out q5.out.size bb6)
      have I6 := Lib.hid (I5.out.mono bb6)
      have I46 := Lib.hid (I45.out.mono bb6)
      have va6 := vb5.below bb6
      clear bb6 I5 q5 I45 vb5
      obtain ⟨y0, y1, y2, _⟩ := va6.three
      obtain ⟨z0, z1, z2, _⟩ := vb6.three
      have hlt := va6.lt
      by_cases hc18 : (sh a).code = 18
      · clear HSX
        rw [hc18]
        go_wp2_with fail
        go_ret
        exact ⟨rfl, q6.out⟩
      obtain ⟨hco, hva⟩ := HSX.out.resolve_left (fun e => hc18 (by rw [e]; rfl))
      have hn18 : ((sh a).code == 18) = false := by simpa using hc18
      have hee : ((sh a).code == (sh a).code) = true := by simp
      generalize (sh b).code = c2 at *
      generalize (sh b).val = v2 at *
      subst hco hva
      clear HSX hc18
      go_wp2_with fail
      generalize World.alloc _ _ = W6 at *
      refine (equal_any (sh a).val (sh a).val A3 A5 c3 c5 W6 I46.out I6.out (by omega) (by omega)).mono ?_
      rintro e w7 ⟨rfl, hb7⟩
      have q7 := Lib.hid (below_step q6.out q6.out.size hb7)
      rw [eqV_refl]
      clear hb7
      go_wp2_with fail
      go_ret
      exact ⟨rfl, q7.out⟩
    · subst hab
      have HSX := Lib.hid (HSH.out a a (by omega))
      clear HSH
      go_wp2_with fail
      refine (call_v lib A cap name args Aa ca sh HC.out a w2 (HL.out.mono q2.out) hF HS.out (HV.out.mono q2.out) (by omega)).mono ?_
      rintro e w3 ⟨hb3, hl3, _, A3, c3, hi3, rfl⟩
      have q3 := Lib.hid (below_step q2.out q2.out.size hb3)
      have I3 := Lib.hid hi3.at_
      have hc3 := hi3.1
      clear hb3 q2 hi3
      have bb4 := below_box w3 (Obj.cells #[.bool (sh a).val.list, .int .i64 (sh a).val.n, .slice A3 (sh a).val.l.length c3] 29)
      have vb4 := bx_new w3 #[.bool (sh a).val.list, .int .i64 (sh a).val.n, .slice A3 (sh a).val.l.length c3] 29
      have q4 := Lib.hid (below_step q3.out q3.out.size bb4)
      have I4 := Lib.hid (I3.out.mono bb4)
      clear bb4 I3 q3
      go_wp2_with fail
      generalize World.alloc _ _ = W4 at vb4 q4 I4 ⊢
      refine (call_v lib A cap name args Aa ca sh HC.out a W4 (HL.out.mono q4.out) hF HS.out (HV.out.mono q4.out) (by omega)).mono ?_
      rintro e w5 ⟨hb5, hl5, _, A5, c5, hi5, rfl⟩
      have q5 := Lib.hid (below_step q4.out q4.out.size hb5)
      have I5 := Lib.hid hi5.at_
      have I45 := Lib.hid (I4.out.mono hb5)
      have vb5 := vb4.below hb5
      clear hb5 q4 hi5 I4 vb4 HC
      have bb6 := below_box w5 (Obj.cells #[.bool (sh a).val.list, .int .i64 (sh a).val.n, .slice A5 (sh a).val.l.length c5] 29)
      have vb6 := bx_new w5 #[.bool (sh a).val.list, .int .i64 (sh a).val.n, .slice A5 (sh a).val.l.length c5] 29
      have q6 := Lib.hid (below_step q5.out q5.out.size bb6)
      have I6 := Lib.hid (I5.out.mono bb6)
      have I46 := Lib.hid (I45.out.mono bb6)
      have va6 := vb5.below bb6
      clear bb6 I5 q5 I45 vb5
      obtain ⟨y0, y1, y2, _⟩ := va6.three
      obtain ⟨z0, z1, z2, _⟩ := vb6.three
      have hlt := va6.lt
      by_cases hc18 : (sh a).code = 18
      · clear HSX
        rw [hc18]
        go_wp2_with fail
        go_ret
        exact ⟨rfl, q6.out⟩
      obtain ⟨hco, hva⟩ := HSX.out.resolve_left (fun e => hc18 (by rw [e]; rfl))
      have hn18 : ((sh a).code == 18) = false := by simpa using hc18
      have hee : ((sh a).code == (sh a).code) = true := by simp
      clear HSX hc18
      go_wp2_with fail
      generalize World.alloc _ _ = W6 at *
      refine (equal_any (sh a).val (sh a).val A3 A5 c3 c5 W6 I46.out I6.out (by omega) (by omega)).mono ?_
      rintro e w7 ⟨rfl, hb7⟩
      have q7 := Lib.hid (below_step q6.out q6.out.size hb7)
      rw [eqV_refl]
      clear hb7
      go_wp2_with fail
      go_ret
      exact ⟨rfl, q7.out⟩
    · have HSX := Lib.hid (HSH.out b a (by omega))
      clear HSH
      go_wp2_with fail
      refine (call_v lib A cap name args Aa ca sh HC.out b w2 (HL.out.mono q2.out) hF HS.out (HV.out.mono q2.out) (by omega)).mono ?_
      rintro e w3 ⟨hb3, hl3, _, A3, c3, hi3, rfl⟩
      have q3 := Lib.hid (below_step q2.out q2.out.size hb3)
      have I3 := Lib.hid hi3.at_
      have hc3 := hi3.1
      clear hb3 q2 hi3
      have bb4 := below_box w3 (Obj.cells #[.bool (sh b).val.list, .int .i64 (sh b).val.n, .slice A3 (sh b).val.l.length c3] 29)
      have vb4 := bx_new w3 #[.bool (sh b).val.list, .int .i64 (sh b).val.n, .slice A3 (sh b).val.l.length c3] 29
      have q4 := Lib.hid (below_step q3.out q3.out.size bb4)
      have I4 := Lib.hid (I3.out.mono bb4)
      clear bb4 I3 q3
      go_wp2_with fail
      generalize World.alloc _ _ = W4 at vb4 q4 I4 ⊢
      refine (call_v lib A cap name args Aa ca sh HC.out a W4 (HL.out.mono q4.out) hF HS.out (HV.out.mono q4.out) (by omega)).mono ?_
      rintro e w5 ⟨hb5, hl5, _, A5, c5, hi5, rfl⟩
      have q5 := Lib.hid (below_step q4.out q4.out.size hb5)
      have I5 := Lib.hid hi5.at_
      have I45 := Lib.hid (I4.out.mono hb5)
      have vb5 := vb4.below hb5
      clear hb5 q4 hi5 I4 vb4 HC
      have bb6 := below_box w5 (Obj.cells #[.bool (sh a).val.list, .int .i64 (sh a).val.n, .slice A5 (sh a).val.l.length c5] 29)
      have vb6 := bx_new w5 #[.bool (sh a).val.list, .int .i64 (sh a).val.n, .slice A5 (sh a).val.l.length c5] 29
      have q6 := Lib.hid (below_step q5.out q5.out.size bb6)
      have I6 := Lib.hid (I5.out.mono bb6)
      have I46 := Lib.hid (I45.out.mono bb6)
      have va6 := vb5.below bb6
      clear bb6 I5 q5 I45 vb5
      obtain ⟨y0, y1, y2, _⟩ := va6.three
      obtain ⟨z0, z1, z2, _⟩ := vb6.three
      have hlt := va6.lt
      by_cases hc18 : (sh b).code = 18
      · clear HSX
        rw [hc18]
        go_wp2_with fail
        go_ret
        exact ⟨rfl, q6.out⟩
      obtain ⟨hco, hva⟩ := HSX.out.resolve_left (fun e => hc18 (by rw [e]; rfl))
      have hn18 : ((sh b).code == 18) = false := by simpa using hc18
      have hee : ((sh b).code == (sh b).code) = true := by simp
      generalize (sh a).code = c2 at *
      generalize (sh a).val = v2 at *
      subst hco hva
      clear HSX hc18
      go_wp2_with fail
      generalize World.alloc _ _ = W6 at *
      refine (equal_any (sh b).val (sh b).val A3 A5 c3 c5 W6 I46.out I6.out (by omega) (by omega)).mono ?_
      rintro e w7 ⟨rfl, hb7⟩
      have q7 := Lib.hid (below_step q6.out q6.out.size hb7)
      rw [eqV_refl]
      clear hb7
      go_wp2_with fail
      go_ret
      exact ⟨rfl, q7.out⟩

end Go.Proofs.Ytgokgcnalgpiiaa

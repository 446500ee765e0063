/-
  The walk of the law AnfFuel.
-/
import Derived.Test.YtcoeakdpcigogaaDoorAnfLaw
namespace Go.Proofs.YtcoeakdpcigogaaDoor
open Go.ChangeShapes Go.WideShapes Go.ChangeAt Go.RowKit Go.Sort Go.Maps

/-- What an opened library of normalized functions gives. -/
structure OpF (f : Af) : Prop where
  pn : ∀ p ∈ f.params, p.name.size ≤ 9223372036854775807
  tn : ∀ p ∈ f.temps, p.name.size ≤ 9223372036854775807
  pl : f.params.length ≤ 1048576
  tl : f.temps.length ≤ 1048576
  bd : ∀ y ∈ f.body, BdFit y
  bl : bszL f.body ≤ 1048576
  rs : f.result.size ≤ 9223372036854775807
  nm : f.name.size ≤ 9223372036854775807
theorem few_fit {l : List Af} (ho : ∀ f ∈ l, OpF f) (h : fewB l = true) : l.length ≤ 8 ∧ ∀ g ∈ l, AfFit g := by
  unfold fewB at h
  rw [Bool.and_eq_true] at h
  refine ⟨of_decide_eq_true h.1, fun g hg => ?_⟩
  have h2 := List.all_eq_true.1 h.2 g hg
  unfold fewA at h2
  simp only [Bool.and_eq_true, decide_eq_true_eq] at h2
  obtain ⟨⟨h3, h4⟩, h5⟩ := h2
  have hz := szA_ge g.body g.body.length (by omega)
  have q := ho g hg
  exact ⟨q.pn, q.tn, by omega, by omega, q.bd, by omega, q.rs⟩
/-- Eval, with what it returns as a variable. -/
theorem ev_law {w0 w : World} {A : Option Addr} {l : List Af} {c : Nat} (hb : Below w0.heap.size w0 w) (hA : AfsAt w0 A l) (ho : ∀ f ∈ l, OpF f) (hf : fewB l = true) (name : ByteArray) {Al : Option Addr} {args : List Vl} {cl : Nat} (hV : VlsX w0 (fun _ => False) Al args) (ha : argB args = true) (F : Int) (hF : F ≤ 1000) :
    Calls Tryd.prog 19 #[.slice A l.length c, .string name, .slice Al args.length cl, .int .i64 F] w (RetEv (aEval apR l name args F) w) := by
  obtain ⟨h1, h2⟩ := few_fit ho hf
  unfold argB at ha
  rw [Bool.and_eq_true] at ha
  have h3 := of_decide_eq_true ha.1
  have h4 := List.all_eq_true.1 ha.2
  exact aEval_any c (hA.below hb) h2 (fun g hg => (ho g hg).nm) (by omega) (ar_valid h2) name Al args cl (VlsX.le hV (Le.of_fr (Fr.of_below hb fun _ => False) (fun _ _ e => e.elim) fun _ _ e => e)) (fun v hv => by have := of_decide_eq_true (h4 v hv); omega) (by omega) F (by omega)
theorem oneB_t {b : Bool} (h : b = true) : oneB b = 1 := by rw [h]; rfl
theorem oneB_f {b : Bool} (h : b = false) : oneB b = 0 := by rw [h]; rfl

set_option maxRecDepth 100000 in
set_option maxHeartbeats 8000000 in
theorem law_fuel {w : World} (hW : Wld w) (l : List Af) (A : Option Addr) (c : Nat) (hA : AfsAt w A l) (hl : l.length ≤ 9223372036854775807) (ho : ∀ f ∈ l, OpF f) (name : ByteArray) (args : List Vl) (Al : Option Addr) (cl : Nat) (hV : VlsX w (fun _ => False) Al args) (hal : args.length ≤ 9223372036854775807) (hvl : ∀ v ∈ args, v.l.length ≤ 9223372036854775807) (F : Int) (m : Nat) (hm : m < 256) :
    Calls Tryd.prog 5 #[.slice A l.length c, .string name, .slice Al args.length cl, .int .i64 F, .int .u8 m] w fun e w' => e = .returned (.bool true) ∧ Below w.heap.size w w' := by
  have HD := Lib.hid (And.intro hA (And.intro ho (And.intro hV (And.intro hal hvl))))
  have HAW := Lib.hid (awake_any hW)
  clear hA ho hV hal hvl hW
  go_enter Tryd.func5, Tryd.ntmps5
  go_wp2_with fail
  refine HAW.out.mono ?_
  clear HAW
  rintro e w1 ⟨rfl, hb1⟩
  have HB1 := Lib.hid hb1
  have HFE := Lib.hid (few_any l A c w1 (HD.out.1.below hb1) (fun f hf => by have := (HD.out.2.1 f hf).bl; omega) (fun f hf => by have h1 := (HD.out.2.1 f hf).pl; have h2 := (HD.out.2.1 f hf).tl; omega) hl)
  clear hb1
  go_wp2_with fail
  refine HFE.out.mono ?_
  clear HFE
  rintro e w2 ⟨rfl, hb2⟩
  have HB2 := Lib.hid (below_step HB1.out HB1.out.size hb2)
  clear hb2
  cases hfw : fewB l with
  | false =>
    rw [oneB_f rfl]
    go_wp2_with fail
    go_ret
    exact ⟨rfl, HB2.out⟩
  | true =>
    rw [oneB_t rfl]
    have HFW := Lib.hid hfw
    have HAR := Lib.hid (arguments_any args Al cl w2 (VlsX.le HD.out.2.2.1 (Le.of_fr (Fr.of_below HB2.out fun _ => False) (fun _ _ e => e.elim) fun _ _ e => e)) HD.out.2.2.2.1 HD.out.2.2.2.2)
    clear hfw
    go_wp2_with fail
    refine HAR.out.mono ?_
    clear HAR
    rintro e w3 ⟨rfl, hb3⟩
    have HB3 := Lib.hid (below_step HB2.out HB2.out.size hb3)
    clear hb3
    cases hag : argB args with
    | false =>
      rw [oneB_f rfl]
      go_wp2_with fail
      go_ret
      exact ⟨rfl, HB3.out⟩
    | true =>
      rw [oneB_t rfl]
      have HAG := Lib.hid hag
      clear hag
      by_cases hF : 600 < F
      · go_wp2_with fail
        go_ret
        exact ⟨rfl, HB3.out⟩
      have HEV := Lib.hid (ev_law (c := c) (cl := cl) HB3.out HD.out.1 HD.out.2.1 HFW.out name HD.out.2.2.1 HAG.out F (by omega))
      go_wp2_with fail
      refine HEV.out.mono ?_
      clear HEV
      rintro e w4 ⟨hb4, hl4, A4, c4, rfl, hi4⟩
      have HB4 := Lib.hid (below_step HB3.out HB3.out.size hb4)
      have HMO := Lib.hid (fun (h0 : 0 ≤ F) (h : (aEval apR l name args F).1 ≠ 18) => aEval_more (ap := apR) (lib := l) (name := name) (args := args) h0 m h)
      have HZE := Lib.hid (fun (h : (aEval apR l name args F).1 ≠ 0) => aEval_zero h)
      have HNE := Lib.hid (fun (h : F < 0) => aEval_neg (ap := apR) (lib := l) (name := name) (args := args) h)
      have HI4 := Lib.hid hi4
      clear hb4 hi4
      generalize hr : aEval apR l name args F = r at *
      clear hr
      have HBY := Lib.hid (below_box w4 (Obj.cells #[.bool r.2.list, .int .i64 r.2.n, .slice A4 r.2.l.length c4] 46))
      have HXY := Lib.hid (bx_new w4 #[.bool r.2.list, .int .i64 r.2.n, .slice A4 r.2.l.length c4] 46)
      have HB5 := Lib.hid (below_step HB4.out HB4.out.size HBY.out)
      have HI5 := Lib.hid (HI4.out.mono HBY.out)
      go_upto_region 6 with fail
      generalize w4.alloc _ = W5 at HBY HXY HB5 HI5 ⊢
      by_cases h0 : F < 0
      · have HEV := Lib.hid (ev_law (c := c) (cl := cl) HB5.out HD.out.1 HD.out.2.1 HFW.out name HD.out.2.2.1 HAG.out 0 (by omega))
        rw [← HNE.out h0] at HEV
        go_wp2_with fail
        refine HEV.out.mono ?_
        clear HEV
        rintro e w6 ⟨hb6, hl6, A6, c6, rfl, hi6⟩
        have HB6 := Lib.hid (below_step HB5.out HB5.out.size hb6)
        have HBZ := Lib.hid (below_box w6 (Obj.cells #[.bool r.2.list, .int .i64 r.2.n, .slice A6 r.2.l.length c6] 46))
        have HXZ := Lib.hid (bx_new w6 #[.bool r.2.list, .int .i64 r.2.n, .slice A6 r.2.l.length c6] 46)
        have HXY6 := Lib.hid ((HXY.out.below hb6).below HBZ.out)
        have HB7 := Lib.hid (below_step HB6.out HB6.out.size HBZ.out)
        have HSA := Lib.hid (same_any r.2 A4 A6 c4 c6 _ ((HI5.out.mono hb6).mono HBZ.out) (hi6.mono HBZ.out) hl4)
        clear hb6 hi6
        go_upto_region 8 with fail
        generalize w6.alloc _ = W7 at HBZ HXZ HXY6 HB7 HSA ⊢
        obtain ⟨x0, x1, x2, _⟩ := Bx.three HXY6.out
        obtain ⟨z0, z1, z2, _⟩ := Bx.three HXZ.out
        have hlx := HXY6.out.lt
        have hlz := HXZ.out.lt
        go_wp2_with fail
        refine HSA.out.mono ?_
        rintro e w8 ⟨rfl, hb8⟩
        have HB8 := Lib.hid (below_step HB7.out HB7.out.size hb8)
        clear x0 x1 x2 z0 z1 z2 hb8 HSA
        go_wp2_with fail
        go_ret
        exact ⟨rfl, HB8.out⟩
      · by_cases h18 : r.1 = 18
        · have hz := HZE.out (by omega)
          have h18' : (r.1 == 18) = true := by rw [h18]; rfl
          obtain ⟨x0, x1, x2, _⟩ := Bx.three HXY.out
          have hlx := HXY.out.lt
          rw [hz] at x0 x1 x2 HI5
          have HSA := Lib.hid (same_any zeroV A4 none c4 0 W5 HI5.out (fun k x hk => by simp [zeroV] at hk) (by simp [zeroV]))
          clear hz
          go_wp2_with fail
          refine HSA.out.mono ?_
          rintro e w8 ⟨rfl, hb8⟩
          have HB8 := Lib.hid (below_step HB5.out HB5.out.size hb8)
          clear x0 x1 x2 hb8 HSA
          go_wp2_with fail
          go_ret
          exact ⟨rfl, HB8.out⟩
        · have h18' : (r.1 == 18) = false := beq_eq_false_iff_ne.2 h18
          have HEV := Lib.hid (ev_law (c := c) (cl := cl) HB5.out HD.out.1 HD.out.2.1 HFW.out name HD.out.2.2.1 HAG.out (F + m) (by omega))
          rw [HMO.out (by omega) h18] at HEV
          have hwr : IntKind.i64.wrap (m : Int) = m := by rw [IntKind.wrap_i64] <;> omega
          have hwr2 : IntKind.i64.wrap (F + (m : Int)) = F + m := by rw [IntKind.wrap_i64] <;> omega
          go_wp2_with fail
          refine HEV.out.mono ?_
          clear HEV
          rintro e w6 ⟨hb6, hl6, A6, c6, rfl, hi6⟩
          have HB6 := Lib.hid (below_step HB5.out HB5.out.size hb6)
          have HBZ := Lib.hid (below_box w6 (Obj.cells #[.bool r.2.list, .int .i64 r.2.n, .slice A6 r.2.l.length c6] 46))
          have HXZ := Lib.hid (bx_new w6 #[.bool r.2.list, .int .i64 r.2.n, .slice A6 r.2.l.length c6] 46)
          have HXY6 := Lib.hid ((HXY.out.below hb6).below HBZ.out)
          have HB7 := Lib.hid (below_step HB6.out HB6.out.size HBZ.out)
          have HSA := Lib.hid (same_any r.2 A4 A6 c4 c6 _ ((HI5.out.mono hb6).mono HBZ.out) (hi6.mono HBZ.out) hl4)
          clear hb6 hi6
          go_upto_region 12 with fail
          generalize w6.alloc _ = W7 at HBZ HXZ HXY6 HB7 HSA ⊢
          obtain ⟨x0, x1, x2, _⟩ := Bx.three HXY6.out
          obtain ⟨z0, z1, z2, _⟩ := Bx.three HXZ.out
          have hlx := HXY6.out.lt
          have hlz := HXZ.out.lt
          go_wp2_with fail
          refine HSA.out.mono ?_
          rintro e w8 ⟨rfl, hb8⟩
          have HB8 := Lib.hid (below_step HB7.out HB7.out.size hb8)
          clear x0 x1 x2 z0 z1 z2 hb8 HSA
          go_wp2_with fail
          go_ret
          exact ⟨rfl, HB8.out⟩

end Go.Proofs.YtcoeakdpcigogaaDoor

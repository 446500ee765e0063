/-
  The contracts of slices.Equal at ints, of fun.Equal and the reference's Equal.
-/
import Derived.Test.YtoankdaddgjnlaaFunInts
namespace Go.Proofs.Ytoankdaddgjnlaa
open Go.ChangeShapes Go.WideShapes Go.ChangeAt Go.RowKit Go.Sort

set_option maxRecDepth 100000 in
set_option maxHeartbeats 1000000 in
theorem eqI_any (l l' : List Int) (A A' : Option Addr) (cap cap' : Nat) (w : World) (hL : IntsAt w A l) (hL' : IntsAt w A' l') (hl : l.length ≤ 9223372036854775807) (_hl' : l'.length ≤ 9223372036854775807) :
    Calls Try.prog 19 #[.slice A l.length cap, .slice A' l'.length cap'] w fun e w' => e = .returned (.bool (decide (l = l'))) ∧ Below w.heap.size w w' := by
  by_cases hln : l.length = l'.length
  rotate_left
  · have hn := Lib.hid (show decide (l = l') = false by simp; intro e; exact hln (by rw [e]))
    have h1 : ((l.length : Int) != l'.length) = true := bne_iff_ne.2 (by omega)
    clear hln
    go_enter Try.func19, Try.ntmps19
    go_wp2_with fail
    go_ret
    exact ⟨ret_bool hn.out.symm, Below.refl _ _⟩
  have h1 : ((l.length : Int) != l'.length) = false := by rw [hln]; simp
  have HLN := Lib.hid hln
  have HL := Lib.hid hL
  have HL' := Lib.hid hL'
  clear hln hL hL'
  go_enter Try.func19, Try.ntmps19
  go_wp2_with fail
  clear h1
  go_loopw [13] (fun i wr => ∃ k : Nat, k ≤ l.length ∧ i = .int .i64 k ∧ Hid (∀ j, j < k → l[j]? = l'[j]?) ∧ Below w.heap.size w wr) (fun i _ => l.length - (intOf i).toNat)
  case atStart => exact ⟨0, by omega, rfl, fun j hj => by omega, Below.refl _ _⟩
  case round =>
    obtain ⟨k, hk, rfl, hz, hb⟩ := hrel
    by_cases hin : k < l.length
    · have hin' : k < l'.length := by rw [← HLN.out]; exact hin
      obtain ⟨b, o, rfl, hi⟩ := (HL.out.mono hb).at_ hin
      obtain ⟨b', o', rfl, hi'⟩ := (HL'.out.mono hb).at_ hin'
      have HX := Lib.hid (List.getElem?_eq_getElem hin)
      have HY := Lib.hid (List.getElem?_eq_getElem hin')
      generalize l[k] = x at *
      generalize l'[k] = y at *
      have r1 : (0 : Int) ≤ k := by omega
      have r2 : (k : Int) < l.length := by omega
      have r3 : (k : Int) < l'.length := by omega
      by_cases hxy : x = y
      · have hz' := Lib.hid (fun j (hj : j < k + 1) => show l[j]? = l'[j]? from by
          by_cases e : j = k
          · rw [e, HX.out, HY.out, hxy]
          · exact hz.out j (by omega))
        have hx1 : (x != y) = false := by rw [hxy]; simp
        clear hz HX HY hxy
        go_wp2_with fail
        go_quiet (fail)
        go_wp2_with fail
        exact ⟨⟨k + 1, by omega, by go_num, hz', hb.trans ⟨rfl, rfl, rfl, Nat.le_refl _, fun _ _ => rfl⟩⟩, by simp [intOf]; omega⟩
      · have hn := Lib.hid (show decide (l = l') = false by
          simp; intro e
          have h2 := HX.out; rw [e, HY.out] at h2
          exact hxy (Option.some.inj h2).symm)
        have hx1 : (x != y) = true := bne_iff_ne.2 hxy
        clear hz HX HY hxy
        go_wp2_with fail
        go_quiet (fail)
        go_wp2_with fail
        go_ret
        exact ⟨ret_bool hn.out.symm, hb.trans ⟨rfl, rfl, rfl, Nat.le_refl _, fun _ _ => rfl⟩⟩
    · have hn := Lib.hid (show decide (l = l') = true by
        simp
        apply List.ext_getElem?
        intro j
        by_cases hj : j < k
        · exact hz.out j hj
        · have := HLN.out
          rw [List.getElem?_eq_none (by omega), List.getElem?_eq_none (by omega)])
      clear hz
      go_wp2_with fail
      go_ret
      exact ⟨ret_bool hn.out.symm, hb⟩

/-- A value. -/
structure Vl where
  list : Bool
  n : Int
  l : List Int
def eqV (a b : Vl) : Bool := if a.list = b.list then (if a.list = true then decide (a.l = b.l) else (a.n == b.n)) else false
/-- A value in a box of its own. -/
structure VlB (w : World) (b : Nat) (x : Vl) (A : Option Addr) (cap : Nat) : Prop where
  b0 : w.cell? ⟨b, 0, none⟩ = some (.bool x.list)
  b1 : w.cell? ⟨b, 1, none⟩ = some (.int .i64 x.n)
  b2 : w.cell? ⟨b, 2, none⟩ = some (.slice A x.l.length cap)
  l : IntsAt w A x.l
theorem VlB.mono {w w' : World} {b : Nat} {x : Vl} {A : Option Addr} {cap : Nat} (h : VlB w b x A cap) (hb : Below w.heap.size w w') : VlB w' b x A cap :=
  ⟨below_cell hb h.b0, below_cell hb h.b1, below_cell hb h.b2, h.l.mono hb⟩
theorem vlB_box (w : World) (T : TypeId) (x : Vl) (A : Option Addr) (cap : Nat) (h : IntsAt w A x.l) : VlB (w.alloc (Obj.cells #[.bool x.list, .int .i64 x.n, .slice A x.l.length cap] T)) w.heap.size x A cap := by
  refine ⟨?_, ?_, ?_, h.mono (below_box _ _)⟩ <;> simp [go_sem]

set_option maxRecDepth 100000 in
set_option maxHeartbeats 1000000 in
theorem equal_any (x y : Vl) (A A' : Option Addr) (cap cap' : Nat) (w : World) (hL : IntsAt w A x.l) (hL' : IntsAt w A' y.l) (hl : x.l.length ≤ 9223372036854775807) (hl' : y.l.length ≤ 9223372036854775807) :
    Calls Try.prog 8 #[.agg #[.bool x.list, .int .i64 x.n, .slice A x.l.length cap], .agg #[.bool y.list, .int .i64 y.n, .slice A' y.l.length cap']] w fun e w' => e = .returned (.bool (eqV x y)) ∧ Below w.heap.size w w' := by
  have HE := Lib.hid (eqV.eq_def x y)
  have b1 := below_box w (Obj.cells #[.bool x.list, .int .i64 x.n, .slice A x.l.length cap] 28)
  have b2 := below_box (w.alloc (Obj.cells #[.bool x.list, .int .i64 x.n, .slice A x.l.length cap] 28)) (Obj.cells #[.bool y.list, .int .i64 y.n, .slice A' y.l.length cap'] 28)
  have q2 := below_step b1 b1.size b2
  have HL := Lib.hid (hL.mono q2)
  have HL' := Lib.hid (hL'.mono q2)
  have Q2 := Lib.hid q2
  clear hL hL' b1 b2 q2
  obtain ⟨xl, xn, xs⟩ := x
  obtain ⟨yl, yn, ys⟩ := y
  simp only at *
  cases xl <;> cases yl
  case false.false =>
    go_enter Try.func8, Try.ntmps8
    go_wp2_with fail
    go_ret
    exact ⟨ret_bool (by rw [HE.out]; rfl), Q2.out⟩
  case true.true =>
    go_enter Try.func8, Try.ntmps8
    go_wp2_with fail
    generalize World.alloc _ _ = W at HL HL' Q2 ⊢
    refine (eqI_any xs ys A A' cap cap' _ HL.out HL'.out hl hl').mono ?_
    rintro e w1 ⟨rfl, hb1⟩
    go_wp2_with fail
    go_ret
    exact ⟨ret_bool (by rw [HE.out]; rfl), below_step Q2.out Q2.out.size hb1⟩
  all_goals
    go_enter Try.func8, Try.ntmps8
    go_wp2_with fail
    go_ret
    exact ⟨ret_bool (by rw [HE.out]; rfl), Q2.out⟩

end Go.Proofs.Ytoankdaddgjnlaa

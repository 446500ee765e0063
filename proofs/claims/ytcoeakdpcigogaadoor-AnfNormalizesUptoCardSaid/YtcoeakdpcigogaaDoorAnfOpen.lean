/-
  The walk of the law AnfFuel.
  Arguments of layer 38 opened: normalized libraries; what the row's laid variables give the walks.
-/
import Derived.Test.YtcoeakdpcigogaaDoorAnfLaw
import Derived.Test.YtcoeakdpcigogaaDoorFevOpen
import Derived.Test.YtcoeakdpcigogaaDoorFrame
import Derived.Test.YtcoeakdpcigogaaDoorCards
import Derived.Test.YtcoeakdpcigogaaDoorTie
import Derived.Lib.LaidTab
import Derived.LaidSub
import Derived.LaidOnce
import Derived.Lay
import Derived.Shelf.Vars
import Derived.Deep.DeepWitnessRowRef
import Derived.Deep.Slices
import Derived.JoinedOf
import Derived.JoinedAt
import Derived.RowKit3
namespace Go.Proofs.YtcoeakdpcigogaaDoor
open Go.ChangeShapes Go.WideShapes Go.ChangeAt Go.RowKit Go.Sort Go.Maps

/-- What an opened library of normalized functions gives. -/
structure OpF (f : Af) : Prop where
  pn : ∀ p ∈ f.params, p.name.size ≤ 9223372036854775807
  tn : ∀ p ∈ f.temps, p.name.size ≤ 9223372036854775807
  pl : f.params.length ≤ 1048576
  tl : f.temps.length ≤ 1048576
  bd : ∀ y ∈ f.body, BdFit y
  bl : bszL f.body ≤ 1048576
  rs : f.result.size ≤ 9223372036854775807
  nm : f.name.size ≤ 9223372036854775807
theorem few_fit {l : List Af} (ho : ∀ f ∈ l, OpF f) (h : fewB l = true) : l.length ≤ 8 ∧ ∀ g ∈ l, AfFit g := by
  unfold fewB at h
  rw [Bool.and_eq_true] at h
  refine ⟨of_decide_eq_true h.1, fun g hg => ?_⟩
  have h2 := List.all_eq_true.1 h.2 g hg
  unfold fewA at h2
  simp only [Bool.and_eq_true, decide_eq_true_eq] at h2
  obtain ⟨⟨h3, h4⟩, h5⟩ := h2
  have hz := szA_ge g.body g.body.length (by omega)
  have q := ho g hg
  exact ⟨q.pn, q.tn, by omega, by omega, q.bd, by omega, q.rs⟩
/-- Eval, with what it returns as a variable. -/
theorem ev_law {w0 w : World} {A : Option Addr} {l : List Af} {c : Nat} (hb : Below w0.heap.size w0 w) (hA : AfsAt w0 A l) (ho : ∀ f ∈ l, OpF f) (hf : fewB l = true) (name : ByteArray) {Al : Option Addr} {args : List Vl} {cl : Nat} (hV : VlsX w0 (fun _ => False) Al args) (ha : argB args = true) (F : Int) (hF : F ≤ 1000) :
    Calls Tryd.prog 19 #[.slice A l.length c, .string name, .slice Al args.length cl, .int .i64 F] w (RetEv (aEval apR l name args F) w) := by
  obtain ⟨h1, h2⟩ := few_fit ho hf
  unfold argB at ha
  rw [Bool.and_eq_true] at ha
  have h3 := of_decide_eq_true ha.1
  have h4 := List.all_eq_true.1 ha.2
  exact aEval_any c (hA.below hb) h2 (fun g hg => (ho g hg).nm) (by omega) (ar_valid h2) name Al args cl (VlsX.le hV (Le.of_fr (Fr.of_below hb fun _ => False) (fun _ _ e => e.elim) fun _ _ e => e)) (fun v hv => by have := of_decide_eq_true (h4 v hv); omega) (by omega) F (fun _ _ _ _ _ => by omega)

set_option maxRecDepth 100000 in
set_option maxHeartbeats 8000000 in
theorem law_fuel {w : World} (hW : Wld w) (l : List Af) (A : Option Addr) (c : Nat) (hA : AfsAt w A l) (hl : l.length ≤ 9223372036854775807) (ho : ∀ f ∈ l, OpF f) (name : ByteArray) (args : List Vl) (Al : Option Addr) (cl : Nat) (hV : VlsX w (fun _ => False) Al args) (hal : args.length ≤ 9223372036854775807) (hvl : ∀ v ∈ args, v.l.length ≤ 9223372036854775807) (F : Int) (m : Nat) (hm : m < 256) :
    Calls Tryd.prog 5 #[.slice A l.length c, .string name, .slice Al args.length cl, .int .i64 F, .int .u8 m] w fun e w' => e = .returned (.bool true) ∧ Below w.heap.size w w' := by
  have HD := Lib.hid (And.intro hA (And.intro ho (And.intro hV (And.intro hal hvl))))
  have HAW := Lib.hid (awake_any hW)
  clear hA ho hV hal hvl hW
  go_enter Tryd.func5, Tryd.ntmps5
  go_wp2_with fail
  refine HAW.out.mono ?_
  clear HAW
  rintro e w1 ⟨rfl, hb1⟩
  have HB1 := Lib.hid hb1
  have HFE := Lib.hid (few_any l A c w1 (HD.out.1.below hb1) (fun f hf => by have := (HD.out.2.1 f hf).bl; omega) (fun f hf => by have h1 := (HD.out.2.1 f hf).pl; have h2 := (HD.out.2.1 f hf).tl; omega) hl)
  clear hb1
  go_wp2_with fail
  refine HFE.out.mono ?_
  clear HFE
  rintro e w2 ⟨rfl, hb2⟩
  have HB2 := Lib.hid (below_step HB1.out HB1.out.size hb2)
  clear hb2
  cases hfw : fewB l with
  | false =>
    rw [oneB_f rfl]
    go_wp2_with fail
    go_ret
    exact ⟨rfl, HB2.out⟩
  | true =>
    rw [oneB_t rfl]
    have HFW := Lib.hid hfw
    have HAR := Lib.hid (arguments_any args Al cl w2 (VlsX.le HD.out.2.2.1 (Le.of_fr (Fr.of_below HB2.out fun _ => False) (fun _ _ e => e.elim) fun _ _ e => e)) HD.out.2.2.2.1 HD.out.2.2.2.2)
    clear hfw
    go_wp2_with fail
    refine HAR.out.mono ?_
    clear HAR
    rintro e w3 ⟨rfl, hb3⟩
    have HB3 := Lib.hid (below_step HB2.out HB2.out.size hb3)
    clear hb3
    cases hag : argB args with
    | false =>
      rw [oneB_f rfl]
      go_wp2_with fail
      go_ret
      exact ⟨rfl, HB3.out⟩
    | true =>
      rw [oneB_t rfl]
      have HAG := Lib.hid hag
      clear hag
      by_cases hF : 600 < F
      · go_wp2_with fail
        go_ret
        exact ⟨rfl, HB3.out⟩
      have HEV := Lib.hid (ev_law (c := c) (cl := cl) HB3.out HD.out.1 HD.out.2.1 HFW.out name HD.out.2.2.1 HAG.out F (by omega))
      go_wp2_with fail
      refine HEV.out.mono ?_
      clear HEV
      rintro e w4 ⟨hb4, hl4, A4, c4, rfl, hi4⟩
      have HB4 := Lib.hid (below_step HB3.out HB3.out.size hb4)
      have HMO := Lib.hid (fun (h0 : 0 ≤ F) (h : (aEval apR l name args F).1 ≠ 18) => aEval_more (ap := apR) (lib := l) (name := name) (args := args) h0 m h)
      have HZE := Lib.hid (fun (h : (aEval apR l name args F).1 ≠ 0) => aEval_zero h)
      have HNE := Lib.hid (fun (h : F < 0) => aEval_neg (ap := apR) (lib := l) (name := name) (args := args) h)
      have HI4 := Lib.hid hi4
      clear hb4 hi4
      generalize hr : aEval apR l name args F = r at *
      clear hr
      have HBY := Lib.hid (below_box w4 (Obj.cells #[.bool r.2.list, .int .i64 r.2.n, .slice A4 r.2.l.length c4] 46))
      have HXY := Lib.hid (bx_new w4 #[.bool r.2.list, .int .i64 r.2.n, .slice A4 r.2.l.length c4] 46)
      have HB5 := Lib.hid (below_step HB4.out HB4.out.size HBY.out)
      have HI5 := Lib.hid (HI4.out.mono HBY.out)
      go_upto_region 6 with fail
      generalize w4.alloc _ = W5 at HBY HXY HB5 HI5 ⊢
      by_cases h0 : F < 0
      · have HEV := Lib.hid (ev_law (c := c) (cl := cl) HB5.out HD.out.1 HD.out.2.1 HFW.out name HD.out.2.2.1 HAG.out 0 (by omega))
        rw [← HNE.out h0] at HEV
        go_wp2_with fail
        refine HEV.out.mono ?_
        clear HEV
        rintro e w6 ⟨hb6, hl6, A6, c6, rfl, hi6⟩
        have HB6 := Lib.hid (below_step HB5.out HB5.out.size hb6)
        have HBZ := Lib.hid (below_box w6 (Obj.cells #[.bool r.2.list, .int .i64 r.2.n, .slice A6 r.2.l.length c6] 46))
        have HXZ := Lib.hid (bx_new w6 #[.bool r.2.list, .int .i64 r.2.n, .slice A6 r.2.l.length c6] 46)
        have HXY6 := Lib.hid ((HXY.out.below hb6).below HBZ.out)
        have HB7 := Lib.hid (below_step HB6.out HB6.out.size HBZ.out)
        have HSA := Lib.hid (same_any r.2 A4 A6 c4 c6 _ ((HI5.out.mono hb6).mono HBZ.out) (hi6.mono HBZ.out) hl4)
        clear hb6 hi6
        go_upto_region 8 with fail
        generalize w6.alloc _ = W7 at HBZ HXZ HXY6 HB7 HSA ⊢
        obtain ⟨x0, x1, x2, _⟩ := Bx.three HXY6.out
        obtain ⟨z0, z1, z2, _⟩ := Bx.three HXZ.out
        have hlx := HXY6.out.lt
        have hlz := HXZ.out.lt
        go_wp2_with fail
        refine HSA.out.mono ?_
        rintro e w8 ⟨rfl, hb8⟩
        have HB8 := Lib.hid (below_step HB7.out HB7.out.size hb8)
        clear x0 x1 x2 z0 z1 z2 hb8 HSA
        go_wp2_with fail
        go_ret
        exact ⟨rfl, HB8.out⟩
      · by_cases h18 : r.1 = 18
        · have hz := HZE.out (by omega)
          have h18' : (r.1 == 18) = true := by rw [h18]; rfl
          obtain ⟨x0, x1, x2, _⟩ := Bx.three HXY.out
          have hlx := HXY.out.lt
          rw [hz] at x0 x1 x2 HI5
          have HSA := Lib.hid (same_any zeroV A4 none c4 0 W5 HI5.out (fun k x hk => by simp [zeroV] at hk) (by simp [zeroV]))
          clear hz
          go_wp2_with fail
          refine HSA.out.mono ?_
          rintro e w8 ⟨rfl, hb8⟩
          have HB8 := Lib.hid (below_step HB5.out HB5.out.size hb8)
          clear x0 x1 x2 hb8 HSA
          go_wp2_with fail
          go_ret
          exact ⟨rfl, HB8.out⟩
        · have h18' : (r.1 == 18) = false := beq_eq_false_iff_ne.2 h18
          have HEV := Lib.hid (ev_law (c := c) (cl := cl) HB5.out HD.out.1 HD.out.2.1 HFW.out name HD.out.2.2.1 HAG.out (F + m) (by omega))
          rw [HMO.out (by omega) h18] at HEV
          have hwr : IntKind.i64.wrap (m : Int) = m := by rw [IntKind.wrap_i64] <;> omega
          have hwr2 : IntKind.i64.wrap (F + (m : Int)) = F + m := by rw [IntKind.wrap_i64] <;> omega
          go_wp2_with fail
          refine HEV.out.mono ?_
          clear HEV
          rintro e w6 ⟨hb6, hl6, A6, c6, rfl, hi6⟩
          have HB6 := Lib.hid (below_step HB5.out HB5.out.size hb6)
          have HBZ := Lib.hid (below_box w6 (Obj.cells #[.bool r.2.list, .int .i64 r.2.n, .slice A6 r.2.l.length c6] 46))
          have HXZ := Lib.hid (bx_new w6 #[.bool r.2.list, .int .i64 r.2.n, .slice A6 r.2.l.length c6] 46)
          have HXY6 := Lib.hid ((HXY.out.below hb6).below HBZ.out)
          have HB7 := Lib.hid (below_step HB6.out HB6.out.size HBZ.out)
          have HSA := Lib.hid (same_any r.2 A4 A6 c4 c6 _ ((HI5.out.mono hb6).mono HBZ.out) (hi6.mono HBZ.out) hl4)
          clear hb6 hi6
          go_upto_region 12 with fail
          generalize w6.alloc _ = W7 at HBZ HXZ HXY6 HB7 HSA ⊢
          obtain ⟨x0, x1, x2, _⟩ := Bx.three HXY6.out
          obtain ⟨z0, z1, z2, _⟩ := Bx.three HXZ.out
          have hlx := HXY6.out.lt
          have hlz := HXZ.out.lt
          go_wp2_with fail
          refine HSA.out.mono ?_
          rintro e w8 ⟨rfl, hb8⟩
          have HB8 := Lib.hid (below_step HB7.out HB7.out.size hb8)
          clear x0 x1 x2 z0 z1 z2 hb8 HSA
          go_wp2_with fail
          go_ret
          exact ⟨rfl, HB8.out⟩

end Go.Proofs.YtcoeakdpcigogaaDoor

namespace Go.Proofs.YtcoeakdpcigogaaDoor
open Go.ChangeShapes Go.WideShapes Go.ChangeAt Go.RowKit Go.Deep

mutual
def mB : Bd → Nat
  | .mk _ _ _ _ _ a t e => 1 + a.length + mL t + mL e
def mL : List Bd → Nat
  | [] => 0
  | b :: r => mB b + mL r
end
mutual
theorem bsz_le : ∀ b : Bd, bszT b ≤ mB b
  | .mk _ _ _ _ _ a t e => by
    rw [bszT, mB]
    have := bszL_le t
    have := bszL_le e
    omega
theorem bszL_le : ∀ l : List Bd, bszL l ≤ mL l
  | [] => by rw [bszL, mL]; omega
  | b :: r => by
    rw [bszL, mL]
    have := bsz_le b
    have := bszL_le r
    omega
end
theorem mL_sum : ∀ l : List Bd, (l.map mB).sum = mL l
  | [] => by rw [mL]; rfl
  | b :: r => by rw [List.map_cons, List.sum_cons, mL_sum r, mL]
theorem mL_mem {l : List Bd} {y : Bd} (h : y ∈ l) : mB y ≤ mL l := by
  induction l with
  | nil => cases h
  | cons b r ih =>
    rw [mL]
    rcases List.mem_cons.1 h with e | e
    · subst e; omega
    · have := ih e; omega
theorem mB_eq (b : Bd) : mB b = 1 + b.args.length + mL b.thn + mL b.els := by cases b; rw [mB]; rfl
inductive BdF0 : Bd → Prop
  | mk {t : Bd} (h0 : t.to.size ≤ 9223372036854775807) (h1 : t.name.size ≤ 9223372036854775807) (ha : ∀ a ∈ t.args, a.size ≤ 9223372036854775807) (ht : ∀ y ∈ t.thn, BdF0 y) (he : ∀ y ∈ t.els, BdF0 y) : BdF0 t
theorem BdF0.fit {t : Bd} (h : BdF0 t) (hm : mB t ≤ 100000000000000) : BdFit t := by
  induction h with
  | @mk t h0 h1 ha ht he ih1 ih2 =>
    have := mB_eq t
    exact .mk h0 h1 ha (by omega) (fun y hy => ih1 y hy (by have := mL_mem hy; omega)) (fun y hy => ih2 y hy (by have := mL_mem hy; omega))
instance : Inhabited Bd := ⟨.mk ⟨#[]⟩ false 0 0 ⟨#[]⟩ [] [] []⟩
instance : Inhabited Af := ⟨⟨⟨#[]⟩, [], false, [], [], ⟨#[]⟩⟩⟩
theorem list_eight {l : List Value} (h : l.length = 8) : ∃ a b c d e f g i, l = [a, b, c, d, e, f, g, i] := by
  match l, h with
  | [a, b, c, d, e, f, g, i], _ => exact ⟨a, b, c, d, e, f, g, i, rfl⟩
theorem list_six {l : List Value} (h : l.length = 6) : ∃ a b c d e f, l = [a, b, c, d, e, f] := by
  match l, h with
  | [a, b, c, d, e, f], _ => exact ⟨a, b, c, d, e, f, rfl⟩

section
variable {H : Type} {enc : TypeId × Value → H} {w : World} {base : Nat} {spare : Nat → Bool} {held : Bool} {r : Reach} {b0 : Nat}
theorem pairs_eight {xs : List (DataW H × List MemPlace)} (h : xs.length = 8) : ∃ a b c d e f g i, xs = [a, b, c, d, e, f, g, i] := by
  match xs, h with
  | [a, b, c, d, e, f, g, i], _ => exact ⟨a, b, c, d, e, f, g, i, rfl⟩
theorem pairs_six {xs : List (DataW H × List MemPlace)} (h : xs.length = 6) : ∃ a b c d e f, xs = [a, b, c, d, e, f] := by
  match xs, h with
  | [a, b, c, d, e, f], _ => exact ⟨a, b, c, d, e, f, rfl⟩
theorem trod_strsM {fuel : Nat} {cs : List Value} {x : DataW H × List MemPlace} (h : DataW.trod enc Tryd.prog w base spare held fuel 58 cs = some x) : ∃ A l cap, cs = [.slice A l.length cap] ∧ StrsX w (fun _ => False) A l ∧ (∀ a ∈ l, a.size ≤ 9223372036854775807) ∧ l.length + 1 ≤ Rows.uptoBulk x.1 := by
  have c1 : Tryd.prog.cellsOf 9 = 1 := by kernel_rfl
  obtain ⟨A, l, cap, rfl, hl, hk, hs⟩ := trod_listM (α := ByteArray) (fun _ => 1) Tryd.underlying58 c1 (by omega) (p := fun cs' s => cs' = [.string s] ∧ s.size ≤ 9223372036854775807) h (fun m cs' y hm ht _ => by
    obtain ⟨s, q, z, hw⟩ := DataW.trod_string Tryd.underlying9 ht
    unfold maxLen at hw
    refine ⟨s, ⟨q, hw⟩, ?_⟩
    rw [z]
    simp only [Rows.uptoBulk]
    omega)
  rw [sum_const] at hs
  refine ⟨A, l, cap, rfl, fun k s hk2 => ?_, fun a ha => ?_, by omega⟩
  · obtain ⟨b, o, cs', rfl, ⟨rfl, _⟩, hc⟩ := hk k s hk2
    have e0 := hc 0 (by omega)
    simp at e0
    exact ⟨b, o, rfl, id, e0⟩
  · obtain ⟨k, hk2⟩ := List.getElem?_of_mem ha
    obtain ⟨_, _, _, _, ⟨_, h⟩, _⟩ := hk k a hk2
    exact h
theorem bdsX_of {A : Option Addr} {l : List Bd} (h : ∀ (k : Nat) (a : Bd), l[k]? = some a → ∃ b o cs', A = some ⟨b, o, none⟩ ∧ (BdC w (fun _ => False) cs' a ∧ BdF0 a) ∧ ∀ j, j < 8 → w.cell? ⟨b, o + k * 8 + j, none⟩ = cs'[j]?) : BdsX w (fun _ => False) A l := fun k y hk => by
  obtain ⟨b, o, cs', rfl, ⟨hc, _⟩, hat⟩ := h k y hk
  exact ⟨b, o, rfl, bdO_of_cells hc id hat⟩
set_option maxRecDepth 100000 in
theorem trod_bindM : ∀ (fuel : Nat) (cs : List Value) (x : DataW H × List MemPlace), DataW.trod enc Tryd.prog w base spare held fuel 67 cs = some x → ∃ t, (BdC w (fun _ => False) cs t ∧ BdF0 t) ∧ mB t ≤ Rows.uptoBulk x.1 := by
  intro fuel
  induction fuel using Nat.strongRecOn with
  | ind fuel ih =>
    intro cs x h
    obtain ⟨xs, n, hn, hx, hlen, hxl, hg⟩ := DataW.trod_struct Tryd.underlying67 h
    have c8 : Tryd.prog.cellsOf 67 = 8 := by kernel_rfl
    have cI : Tryd.prog.cellsOf 3 = 1 := by kernel_rfl
    have cU : Tryd.prog.cellsOf 5 = 1 := by kernel_rfl
    have cS : Tryd.prog.cellsOf 9 = 1 := by kernel_rfl
    have cB : Tryd.prog.cellsOf 4 = 1 := by kernel_rfl
    have cT : Tryd.prog.cellsOf 58 = 1 := by kernel_rfl
    have cK : Tryd.prog.cellsOf 37 = 1 := by kernel_rfl
    obtain ⟨a, b, c, d, e, f, g, i, rfl⟩ := list_eight (hlen.trans c8)
    obtain ⟨y0, y1, y2, y3, y4, y5, y6, y7, rfl⟩ := pairs_eight (show xs.length = 8 from hxl)
    have g0 : DataW.trod enc Tryd.prog w base spare held n 9 (List.take (Tryd.prog.cellsOf 9) (List.drop 0 [a, b, c, d, e, f, g, i])) = some y0 := hg 0 _ rfl
    have g1 : DataW.trod enc Tryd.prog w base spare held n 4 (List.take (Tryd.prog.cellsOf 4) (List.drop 1 [a, b, c, d, e, f, g, i])) = some y1 := hg 1 _ rfl
    have g2 : DataW.trod enc Tryd.prog w base spare held n 5 (List.take (Tryd.prog.cellsOf 5) (List.drop 2 [a, b, c, d, e, f, g, i])) = some y2 := hg 2 _ rfl
    have g3 : DataW.trod enc Tryd.prog w base spare held n 3 (List.take (Tryd.prog.cellsOf 3) (List.drop 3 [a, b, c, d, e, f, g, i])) = some y3 := hg 3 _ rfl
    have g4 : DataW.trod enc Tryd.prog w base spare held n 9 (List.take (Tryd.prog.cellsOf 9) (List.drop 4 [a, b, c, d, e, f, g, i])) = some y4 := hg 4 _ rfl
    have g5 : DataW.trod enc Tryd.prog w base spare held n 58 (List.take (Tryd.prog.cellsOf 58) (List.drop 5 [a, b, c, d, e, f, g, i])) = some y5 := hg 5 _ rfl
    have g6 : DataW.trod enc Tryd.prog w base spare held n 37 (List.take (Tryd.prog.cellsOf 37) (List.drop 6 [a, b, c, d, e, f, g, i])) = some y6 := hg 6 _ rfl
    have g7 : DataW.trod enc Tryd.prog w base spare held n 37 (List.take (Tryd.prog.cellsOf 37) (List.drop 7 [a, b, c, d, e, f, g, i])) = some y7 := hg 7 _ rfl
    simp only [cI, cU, cS, cB, cT, cK] at g0 g1 g2 g3 g4 g5 g6 g7
    obtain ⟨s0, q0, z0, w0⟩ := DataW.trod_string Tryd.underlying9 g0
    obtain ⟨b1, q1, z1⟩ := DataW.trod_bool Tryd.underlying4 g1
    obtain ⟨n2, q2, z2, w2⟩ := DataW.trod_int Tryd.underlying5 g2
    obtain ⟨n3, q3, z3, w3⟩ := DataW.trod_int Tryd.underlying3 g3
    obtain ⟨s4, q4, z4, w4⟩ := DataW.trod_string Tryd.underlying9 g4
    obtain ⟨A5, l5, cap5, q5, h5, f5, s5⟩ := trod_strsM g5
    obtain ⟨A6, l6, cap6, q6, _, h6, s6⟩ := trod_listM (α := Bd) mB Tryd.underlying37 c8 (by omega) (p := fun cs' t => BdC w (fun _ => False) cs' t ∧ BdF0 t) g6 (fun m cs' y hm ht _ => ih m (by omega) cs' y ht)
    obtain ⟨A7, l7, cap7, q7, _, h7, s7⟩ := trod_listM (α := Bd) mB Tryd.underlying37 c8 (by omega) (p := fun cs' t => BdC w (fun _ => False) cs' t ∧ BdF0 t) g7 (fun m cs' y hm ht _ => ih m (by omega) cs' y ht)
    obtain ⟨op, hop, rfl⟩ := wf_u8 w2
    simp only [List.drop_zero, List.drop_succ_cons, List.take_succ_cons, List.take_zero, List.cons.injEq, and_true] at q0 q1 q2 q3 q4 q5 q6 q7
    unfold maxLen at w0 w4
    refine ⟨.mk s0 b1 op n3 s4 l5 l6 l7, ⟨⟨A5, cap5, A6, cap6, A7, cap7, by rw [q0, q1, q2, q3, q4, q5, q6, q7]; rfl, h5, bdsX_of h6, bdsX_of h7⟩, .mk w0 w4 f5 (fun y hy => ?_) (fun y hy => ?_)⟩, ?_⟩
    · obtain ⟨k, hk⟩ := List.getElem?_of_mem hy
      obtain ⟨_, _, _, _, ⟨_, hf⟩, _⟩ := h6 k y hk
      exact hf
    · obtain ⟨k, hk⟩ := List.getElem?_of_mem hy
      obtain ⟨_, _, _, _, ⟨_, hf⟩, _⟩ := h7 k y hk
      exact hf
    · rw [hx, z0, z1, z2, z3, z4]
      show mB _ ≤ Rows.uptoBulk (.agg [_, _, _, _, _, _, _, _])
      rw [mL_sum] at s6 s7
      simp only [mB, Rows.uptoBulk, Rows.uptoBulkAll]
      omega
/-- A function's cells, opened. -/
def AfCells (w : World) (cs : List Value) (f : Af) : Prop := AfC w (fun _ => False) cs f ∧ f.name.size ≤ 9223372036854775807 ∧ f.result.size ≤ 9223372036854775807 ∧ (∀ p ∈ f.params, p.name.size ≤ 9223372036854775807) ∧ (∀ p ∈ f.temps, p.name.size ≤ 9223372036854775807) ∧ ∀ y ∈ f.body, BdF0 y
def mF (f : Af) : Nat := 3 * f.params.length + 3 * f.temps.length + mL f.body
set_option maxRecDepth 100000 in
theorem trod_afM {fuel : Nat} {cs : List Value} {x : DataW H × List MemPlace} (h : DataW.trod enc Tryd.prog w base spare held fuel 39 cs = some x) : ∃ f, AfCells w cs f ∧ mF f ≤ Rows.uptoBulk x.1 := by
  obtain ⟨xs, n, hn, hx, hlen, hxl, hg⟩ := DataW.trod_struct Tryd.underlying39 h
  have c6 : Tryd.prog.cellsOf 39 = 6 := by kernel_rfl
  have c8 : Tryd.prog.cellsOf 67 = 8 := by kernel_rfl
  have cS : Tryd.prog.cellsOf 9 = 1 := by kernel_rfl
  have cB : Tryd.prog.cellsOf 4 = 1 := by kernel_rfl
  have cP : Tryd.prog.cellsOf 36 = 1 := by kernel_rfl
  have cK : Tryd.prog.cellsOf 37 = 1 := by kernel_rfl
  obtain ⟨a, b, c, d, e, f, rfl⟩ := list_six (hlen.trans c6)
  obtain ⟨y0, y1, y2, y3, y4, y5, rfl⟩ := pairs_six (show xs.length = 6 from hxl)
  have g0 : DataW.trod enc Tryd.prog w base spare held n 9 (List.take (Tryd.prog.cellsOf 9) (List.drop 0 [a, b, c, d, e, f])) = some y0 := hg 0 _ rfl
  have g1 : DataW.trod enc Tryd.prog w base spare held n 36 (List.take (Tryd.prog.cellsOf 36) (List.drop 1 [a, b, c, d, e, f])) = some y1 := hg 1 _ rfl
  have g2 : DataW.trod enc Tryd.prog w base spare held n 4 (List.take (Tryd.prog.cellsOf 4) (List.drop 2 [a, b, c, d, e, f])) = some y2 := hg 2 _ rfl
  have g3 : DataW.trod enc Tryd.prog w base spare held n 36 (List.take (Tryd.prog.cellsOf 36) (List.drop 3 [a, b, c, d, e, f])) = some y3 := hg 3 _ rfl
  have g4 : DataW.trod enc Tryd.prog w base spare held n 37 (List.take (Tryd.prog.cellsOf 37) (List.drop 4 [a, b, c, d, e, f])) = some y4 := hg 4 _ rfl
  have g5 : DataW.trod enc Tryd.prog w base spare held n 9 (List.take (Tryd.prog.cellsOf 9) (List.drop 5 [a, b, c, d, e, f])) = some y5 := hg 5 _ rfl
  simp only [cS, cB, cP, cK] at g0 g1 g2 g3 g4 g5
  obtain ⟨s0, q0, z0, w0⟩ := DataW.trod_string Tryd.underlying9 g0
  obtain ⟨A1, l1, cap1, q1, hp1, hf1, hs1⟩ := trod_paramsM g1
  obtain ⟨b2, q2, z2⟩ := DataW.trod_bool Tryd.underlying4 g2
  obtain ⟨A3, l3, cap3, q3, hp3, hf3, hs3⟩ := trod_paramsM g3
  obtain ⟨A4, l4, cap4, q4, _, h4, s4⟩ := trod_listM (α := Bd) mB Tryd.underlying37 c8 (by omega) (p := fun cs' t => BdC w (fun _ => False) cs' t ∧ BdF0 t) g4 (fun m cs' y hm ht _ => trod_bindM m cs' y ht)
  obtain ⟨s5, q5, z5, w5⟩ := DataW.trod_string Tryd.underlying9 g5
  simp only [List.drop_zero, List.drop_succ_cons, List.take_succ_cons, List.take_zero, List.cons.injEq, and_true] at q0 q1 q2 q3 q4 q5
  unfold maxLen at w0 w5
  refine ⟨⟨s0, l1, b2, l3, l4, s5⟩, ⟨⟨A1, cap1, A3, cap3, A4, cap4, by rw [q0, q1, q2, q3, q4, q5], ⟨hp1, fun _ _ _ _ e => e⟩, ⟨hp3, fun _ _ _ _ e => e⟩, bdsX_of h4⟩, w0, w5, fun p hp => ?_, fun p hp => ?_, fun y hy => ?_⟩, ?_⟩
  · obtain ⟨k, hk⟩ := List.getElem?_of_mem hp
    exact hf1.2 k p hk
  · obtain ⟨k, hk⟩ := List.getElem?_of_mem hp
    exact hf3.2 k p hk
  · obtain ⟨k, hk⟩ := List.getElem?_of_mem hy
    obtain ⟨_, _, _, _, ⟨_, hf⟩, _⟩ := h4 k y hk
    exact hf
  · rw [hx, z0, z2, z5]
    show mF _ ≤ Rows.uptoBulk (.agg [_, _, _, _, _, _])
    rw [mL_sum] at s4
    simp only [mF, Rows.uptoBulk, Rows.uptoBulkAll]
    omega
set_option maxRecDepth 100000 in
theorem open_afs {v : Value} {d : DataW H} {p : List MemPlace} (hv : Value.okWide Tryd.prog w r b0 25 v) (h : DataW.Trod enc Tryd.prog w base spare held 25 v d p) (hd : Rows.uptoBulk d ≤ 1048576) : ∃ A l cap, v = .slice A l.length cap ∧ AfsAt w A l ∧ l.length ≤ 9223372036854775807 ∧ ∀ f ∈ l, OpF f := by
  obtain ⟨a, len, cap0, rfl⟩ := okWide_slice Tryd.underlying25 hv
  obtain ⟨fuel, hf⟩ := h
  have c6 : Tryd.prog.cellsOf 39 = 6 := by kernel_rfl
  obtain ⟨A, l, cap, e, hl, hk, hs⟩ := trod_listM (α := Af) mF Tryd.underlying25 c6 (by omega) (p := AfCells w) hf (fun m cs' y hm ht _ => trod_afM ht)
  simp [Value.cells] at e
  refine ⟨A, l, cap, by rw [e.1, e.2.1, e.2.2], fun k f hf => ?_, hl, fun f hf => ?_⟩
  · obtain ⟨b, o, cs', rfl, ⟨hc, _⟩, hat⟩ := hk k f hf
    refine ⟨b, o, cs', rfl, hc, fun j u hu => ?_⟩
    have hj : j < 6 := by have := (List.getElem?_eq_some_iff.1 hu).1; rw [AfC.len _ _ hc] at this; exact this
    rw [hat j hj]; exact hu
  · obtain ⟨k, hk2⟩ := List.getElem?_of_mem hf
    obtain ⟨_, _, _, _, ⟨_, h1, h2, h3, h4, h5⟩, _⟩ := hk k f hk2
    have hm := sum_mem (m := mF) l k f hk2
    have hs' : (l.map mF).sum + 1 ≤ Rows.uptoBulk d := hs
    have hb := bszL_le f.body
    unfold mF at hm hs'
    exact ⟨h3, h4, by omega, by omega, fun y hy => (h5 y hy).fit (by have := mL_mem hy; omega), by omega, h2, h1⟩
end
/-- What the listed variables give the walks. -/
theorem wld_of_laid {W : World} (hH : laidMetH Tryd.prog Rows.anfFuelUptoRow.laid W) : Wld W := by
  rw [MakeChecks.laidMetH_plain _ _ _ (by kernel_rfl)] at hH
  have e1 : (Rows.anfFuelUptoRow.laid.filter fun x => x.1 == "internal/strconv.uint64pow10") = [("internal/strconv.uint64pow10", Lib.tabData .u64 Lib.pow10Tab)] := by kernel_rfl
  have h1 := hH.filter fun x => x.1 == "internal/strconv.uint64pow10"
  rw [e1] at h1
  exact ⟨Lib.tabIs_of_head (g := 0) (t := 169) (e := 160) (n := 20) (by kernel_rfl) (by kernel_rfl) Tryd.underlying169 Tryd.underlying160 (by kernel_rfl) (by kernel_rfl) h1⟩

end Go.Proofs.YtcoeakdpcigogaaDoor

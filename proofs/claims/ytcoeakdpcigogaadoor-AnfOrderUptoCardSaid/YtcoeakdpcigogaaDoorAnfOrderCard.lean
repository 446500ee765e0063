/-
  The walk of the law AnfOrder.
  Proved here: for every input, the law AnfOrder of layer 38 returns true (the normalized form of a function does not depend on the order of the library), and its arguments read afterwards as before.
  Conditions: the row's own: what the arguments hold is of bulk at most 1048576, and the listed variables of Go's library are as their initialisers lay them (the card ties that to the program's text).
-/
import Derived.Test.YtcoeakdpcigogaaDoorAnfLib
import Derived.Test.YtcoeakdpcigogaaDoorAnfPl
import Derived.Test.YtcoeakdpcigogaaDoorAnfRf1
import Derived.Test.YtcoeakdpcigogaaDoorFunRow
import Derived.Test.YtcoeakdpcigogaaDoorAnfOpen
namespace Go.Proofs.YtcoeakdpcigogaaDoor
open Go.ChangeShapes Go.WideShapes Go.ChangeAt Go.RowKit Go.Sort Go.Maps

theorem rev_in {lib : List Fn1} {i : Nat} {f : Fn1} (h : lib.reverse[i]? = some f) : ∃ j : Nat, lib[j]? = some f := List.getElem?_of_mem (List.mem_reverse.1 (List.mem_of_getElem? h))
theorem rev_fit {lib : List Fn1} (h : LibFit lib) : LibFit lib.reverse := ⟨by rw [List.length_reverse]; exact h.1, fun i f hf => by obtain ⟨j, hj⟩ := rev_in hf; exact h.2 j f hj⟩
/-- One more of the reverse. -/
theorem rev_step {lib : List Fn1} {k : Nat} (hk : k < lib.length) : lib.reverse.take (lib.length - k) = lib.reverse.take (lib.length - 1 - k) ++ [lib[k]] := by
  rw [show lib.length - k = (lib.length - 1 - k) + 1 by omega, List.take_succ_eq_append_getElem (by simp; omega)]
  congr 2
  rw [List.getElem_reverse]
  congr 1
  omega
theorem cells_newL (w : World) (cs : List Value) (T : TypeId) : CellsAt (w.alloc (Obj.cells cs.toArray T)) (some ⟨w.heap.size, 0, none⟩) cs := fun j u hu => ⟨w.heap.size, 0, rfl, by
  rw [Nat.zero_add]
  exact (show Bx (w.alloc (Obj.cells cs.toArray T)) w.heap.size cs.toArray from bx_new w _ T).cell (by simpa using hu)⟩
/-- The row of functions that a loop has made so far: what they hold lies in the world ahead of the loop. -/
structure RowA (W : World) (w : World) (v : Value) (l : List Fn1) : Prop where
  hb : Below W.heap.size W w
  own : ∃ cs, w.ownsRow W.heap.size 55 7 v l.length cs ∧ RowL W cs l
theorem RowA.push {W wr w' : World} {v v' : Value} {l : List Fn1} {cs c7 : List Value} {f : Fn1} {o : Obj} (hb : Below W.heap.size W wr) (hown : wr.ownsRow W.heap.size 55 7 v l.length cs) (hr : RowL W cs l) (h7 : FnC W c7 f) (hg : (wr.alloc o).grownBy w' v.ownBlock) (hown' : w'.ownsRow W.heap.size 55 7 v' (l.length + 1) (cs ++ c7)) : RowA W w' v' (l ++ [f]) :=
  ⟨(below_step hb hb.size (below_box wr o)).grown hg (Nat.le_trans hb.size (by simp)) (fun k hk => own_block_geB hown k hk), cs ++ c7, by rw [List.length_append]; exact hown', .snoc hr h7⟩
/-- One function of a library. -/
theorem AfsAt.one {w : World} {b o : Nat} {l : List Af} (h : AfsAt w (some ⟨b, o, none⟩) l) {k : Nat} {f : Af} (hk : l[k]? = some f) : AfsAt w (some ⟨b, o + k * 6, none⟩) [f] := fun j g hj => by
  match j, hj with
  | 0, hj =>
    cases hj
    obtain ⟨b', o', cs, e, h1, h2⟩ := h k f hk
    cases e
    exact ⟨b, o + k * 6, cs, rfl, h1, fun j u hu => by rw [Nat.zero_mul, Nat.add_zero]; exact h2 j u hu⟩
  | j + 1, hj => simp at hj

set_option maxRecDepth 100000 in
set_option maxHeartbeats 8000000 in
theorem law_order {w : World} (lib : List Fn1) (A : Option Addr) (c : Nat) (hO : LibOp w A lib) :
    Calls Tryd.prog 6 #[.slice A lib.length c] w fun e w' => e = .returned (.bool true) ∧ Below w.heap.size w w' := by
  have HO := Lib.hid hO
  have HAW := Lib.hid (awake_any hO.W)
  clear hO
  go_enter Tryd.func6, Tryd.ntmps6
  go_wp2_with fail
  refine HAW.out.mono ?_
  clear HAW
  rintro e w1 ⟨rfl, hb1⟩
  have HB1 := Lib.hid hb1
  have HSM := Lib.hid ((HO.out.below hb1).small c)
  clear hb1
  go_wp2_with fail
  refine HSM.out.mono ?_
  clear HSM
  rintro e w3 ⟨rfl, hb2⟩
  have HB3 := Lib.hid (below_step HB1.out HB1.out.size hb2)
  clear hb2
  cases hsm : smallB lib with
  | false =>
    rw [oneB_f rfl]
    go_wp2_with fail
    go_ret
    exact ⟨rfl, HB3.out⟩
  | true =>
    rw [oneB_t rfl]
    have HSB := Lib.hid hsm
    have h8 := (small_facts hsm).1
    have HL3 := Lib.hid (HO.out.L.mono HB3.out)
    clear hsm
    obtain ⟨i0, hi0, hz0, hz1, hz2⟩ := info_parts info_func
    have HI := Lib.hid (And.intro hi0 (And.intro hz0 (And.intro hz1 hz2)))
    clear hi0 hz0 hz1 hz2
    go_wp2_with fail
    go_loopw [3, 4] (fun v i wr => ∃ k : Nat, k ≤ lib.length ∧ i = .int .i64 ((k : Int) - 1) ∧ Hid (RowA w3 wr v (lib.reverse.take (lib.length - k)))) (fun _ i _ => (intOf i + 1).toNat)
    case atStart => exact ⟨lib.length, by omega, by go_num, Lib.hid ⟨Below.refl _ _, [], by simpa using World.ownsRow_nil _ _ _ _, by simpa using RowL.nil⟩⟩
    case round =>
      obtain ⟨k1, hk1, rfl, hR⟩ := hrel
      by_cases hk0 : k1 = 0
      · subst hk0
        rw [show (((0 : Nat) : Int) - 1) = -1 by omega]
        obtain ⟨hb, cs, hown, hrow⟩ := hR.out
        rw [Nat.sub_zero, show lib.reverse.take lib.length = lib.reverse from List.take_of_length_le (by simp)] at hown hrow
        obtain ⟨Av, cv, rfl, hlr⟩ := lib_of_own hown (hrow.mono hb)
        rw [List.length_reverse]
        have q4 := Lib.hid (below_step HB3.out HB3.out.size hb)
        have HOR := Lib.hid (show LibOp wr Av lib.reverse from ⟨HO.out.W.below q4.out, hlr, rev_fit HO.out.F, fun k f hk => by obtain ⟨j, hj⟩ := rev_in hk; exact HO.out.P j f hj, fun k f hk => by obtain ⟨j, hj⟩ := rev_in hk; exact HO.out.N j f hj⟩)
        clear hown hrow hlr hR
        obtain ⟨W4, rfl⟩ : ∃ y, y = wr := ⟨_, rfl⟩
        have HNA := Lib.hid (Normalize_cap (cap := c) (HO.out.W.below q4.out) (HO.out.L.mono q4.out) HO.out.F HO.out.P HO.out.N (by omega))
        have HNB := Lib.hid (fun (V : World) (hV : Below W4.heap.size W4 V) => Normalize_cap (cap := cv) (HOR.out.W.below hV) (HOR.out.L.mono hV) HOR.out.F HOR.out.P HOR.out.N (by rw [List.length_reverse]; omega))
        rw [List.length_reverse] at HNB
        clear hb
        go_wp2_with fail
        refine HNA.out.mono ?_
        clear HNA
        rintro e w5 ⟨hb5, h5⟩
        have HB5 := Lib.hid (below_step q4.out q4.out.size hb5)
        have HC5 := Lib.hid (HNB.out w5 hb5)
        clear hb5 HNB
        rcases h5 with ⟨hv, rfl⟩ | ⟨hv, A5, c5, rfl, hc5, hA5⟩
        · have hvr : (validR lib.reverse).2 ≠ 0 := fun e => hv (valid_rev.2 e)
          have HVR := Lib.hid hvr
          have n1 : ((validR lib).2 != 0) = true := by simpa using hv
          have n2 : ((validR lib).2 == 0) = false := by simpa using hv
          have n3 : ((validR lib.reverse).2 == 0) = false := by simpa using hvr
          clear hv hvr
          generalize (validR lib).2 = v1 at *
          go_wp2_with fail
          refine HC5.out.mono ?_
          clear HC5
          rintro e w7 ⟨hb7, ⟨_, rfl⟩ | ⟨hv7, _⟩⟩
          · have HB7 := Lib.hid (below_step HB5.out HB5.out.size hb7)
            clear hb7 HVR
            generalize (validR lib.reverse).2 = v2 at *
            go_wp2_with fail
            go_ret
            exact ⟨rfl, HB7.out⟩
          · exact absurd hv7 HVR.out
        · have HVR := Lib.hid (valid_rev.1 hv)
          have HRN := Lib.hid (rev_norm hv)
          have HFT := Lib.hid (norm_fit HO.out.F HSB.out hv)
          have HLN := Lib.hid (normL_len lib)
          have HA5 := Lib.hid hA5
          clear hv hA5
          go_wp2_with fail
          refine HC5.out.mono ?_
          clear HC5
          rintro e w7 ⟨hb7, ⟨hv7, _⟩ | ⟨_, A7, c7, rfl, hc7, hA7⟩⟩
          · exact absurd HVR.out hv7
          have HB7 := Lib.hid (below_step HB5.out HB5.out.size hb7)
          have HA57 := Lib.hid (HA5.out.below hb7)
          rw [HRN.out] at hA7
          rw [List.length_reverse] at hc7 ⊢
          have HA7 := Lib.hid hA7
          have hn8 : lib.length ≤ 8 := h8
          have hln : (normL lib).length = lib.length := HLN.out
          have HLL := Lib.hid hln
          clear hb7 hA7 HA5 HVR HRN HOR hln HLN
          generalize normL lib = l at *
          generalize lib.length = n at *
          go_wp2_with fail
          go_loopw [9] (fun i wr => ∃ k : Nat, k ≤ n ∧ i = .int .i64 k ∧ Hid (Below w7.heap.size w7 wr)) (fun i _ => n - (intOf i).toNat)
          case atStart => exact ⟨0, by omega, rfl, Lib.hid (Below.refl _ _)⟩
          case round =>
            obtain ⟨k, hk, rfl, hbe⟩ := hrel
            have HBE := Lib.hid hbe.out
            have HBr := Lib.hid (below_step HB7.out HB7.out.size hbe.out)
            clear hbe
            by_cases hin : k < n
            · have hin' : k < l.length := by rw [HLL.out]; exact hin
              obtain ⟨j, hj⟩ : ∃ j, n = k + 1 + j := ⟨n - (k + 1), by omega⟩
              have hgl : l[k]? = some l[k] := List.getElem?_eq_getElem hin'
              have hgr : l.reverse[j]? = some l[k] := by
                rw [List.getElem?_reverse (by rw [HLL.out]; omega), HLL.out, show n - 1 - j = k by omega]; exact hgl
              have HFK := Lib.hid (HFT.out _ (List.getElem_mem hin')).1
              obtain ⟨b5, o5, _, rfl, _⟩ := HA57.out k _ hgl
              obtain ⟨b7, o7, _, rfl, _⟩ := HA7.out j _ hgr
              have HX := Lib.hid ((HA57.out.one hgl).below (HBE.out))
              have HY := Lib.hid ((HA7.out.one hgr).below (HBE.out))
              clear hgl hgr
              generalize l[k] = f at *
              have HPX := Lib.hid (fun (w' : World) (hb' : Below wr.heap.size wr w') => plain_any [f] (some ⟨b5, o5 + k * 6, none⟩) (c5 - k) w' (HX.out.below hb') (fun g hg => by rw [List.mem_singleton.1 hg]; have := HFK.out.bl; omega) (by simp))
              have HPY := Lib.hid (fun (w' : World) (hb' : Below wr.heap.size wr w') => plain_any [f] (some ⟨b7, o7 + j * 6, none⟩) (c7 - j) w' (HY.out.below hb') (fun g hg => by rw [List.mem_singleton.1 hg]; have := HFK.out.bl; omega) (by simp))
              have HSA := Lib.hid (fun (w' : World) (Aa Ab : Option Addr) (ca cb : Nat) (h1 : AfsAt w' Aa [f]) (h2 : AfsAt w' Ab [f]) => rsame_same [f] Aa Ab ca cb w' h1 h2 (fun g hg => by rw [List.mem_singleton.1 hg]; exact HFK.out) (by simp))
              have r0 : (0 : Int) ≤ k := by omega
              have r1 : (k : Int) + 1 ≤ c5 := by omega
              have r2 : (j : Int) + 1 ≤ c7 := by omega
              have r3 : (0 : Int) ≤ j := by omega
              have r4 : (0 : Int) ≤ (k : Int) + 1 := by omega
              have r5 : (0 : Int) ≤ (j : Int) + 1 := by omega
              have n5 : ¬ c5 = k := by omega
              have n7 : ¬ c7 = j := by omega
              have z1 : IntKind.i64.wrap ((n : Int) - 1) = (n : Int) - 1 := by rw [IntKind.wrap_i64] <;> omega
              have z2 : IntKind.i64.wrap ((n : Int) - 1 - k) = j := by rw [IntKind.wrap_i64] <;> omega
              have z3 : IntKind.i64.wrap ((n : Int) - k) = (j : Int) + 1 := by rw [IntKind.wrap_i64] <;> omega
              have z4 : IntKind.i64.wrap ((k : Int) + 1) = (k : Int) + 1 := by rw [IntKind.wrap_i64] <;> omega
              have HWD := Lib.hid (show wr.heap.size ≤ wr.drew.heap.size from (belowDrawnP (Below.refl wr.heap.size wr)).size)
              have HC1 := Lib.hid (HPX.out wr.drew (belowDrawnP (Below.refl _ wr)))
              have HC2 := Lib.hid (HPY.out wr.drew (belowDrawnP (Below.refl _ wr)))
              have HJ := Lib.hid hj
              clear hj
              go_upto_region 19 with fail
              go_region_held3 (fun w' => True) (trivial) (first
                | (go_simp; go_at_call 14; (with_reducible refine Calls.mono HC5.out ?_); rintro e w6 ⟨hb6, Ay, cy, rfl, hay⟩; have HC6 := Lib.hid (HSA.out w6 Ax Ay cx cy (HX5.out.below hb6) hay); have HB6 := Lib.hid (below_step HB5.out HB5.out.size hb6); clear hb6 hay; dsimp only)
                | (go_simp; go_at_call 14; (with_reducible refine Calls.mono HC5.out ?_); rintro e w6 ⟨hb6, Ax, cx, rfl, hax⟩; have HC6 := Lib.hid (HSA.out w6 Ax Ay cx cy hax (HX5.out.below hb6)); have HB6 := Lib.hid (below_step HB5.out HB5.out.size hb6); clear hb6 hax; dsimp only)
                | (go_simp; go_at_call 14; (with_reducible refine Calls.mono HC1.out ?_); rintro e w5 ⟨hb5, Ax, cx, rfl, hax⟩; have HX5 := Lib.hid hax; have HB5 := Lib.hid (below_step (belowDrawnP (Below.refl _ wr)) HWD.out hb5); have HC5 := Lib.hid (HPY.out w5 HB5.out); clear hb5 hax; dsimp only)
                | (go_simp; go_at_call 14; (with_reducible refine Calls.mono HC2.out ?_); rintro e w5 ⟨hb5, Ay, cy, rfl, hay⟩; have HX5 := Lib.hid hay; have HB5 := Lib.hid (below_step (belowDrawnP (Below.refl _ wr)) HWD.out hb5); have HC5 := Lib.hid (HPX.out w5 HB5.out); clear hb5 hay; dsimp only)
                | (go_simp; go_at_call 13; (with_reducible refine Calls.mono HC6.out ?_); rintro e w8 ⟨rfl, hb8⟩; have HB8 := Lib.hid (below_step HB6.out HB6.out.size hb8); clear hb8; dsimp only)
                | fail)
              all_goals
                have HE8 := Lib.hid (below_step HBE.out HBE.out.size HB8.out)
                go_wp2_with fail
                exact ⟨⟨k + 1, by omega, by go_num, HE8⟩, by simp [intOf]; omega⟩
            · obtain rfl : k = n := by omega
              go_wp2_with fail
              go_ret
              exact ⟨rfl, HBr.out⟩
      · obtain ⟨k, rfl⟩ : ∃ k, k1 = k + 1 := ⟨k1 - 1, by omega⟩
        rw [show (((k + 1 : Nat) : Int) - 1) = (k : Int) by omega]
        have hin : k < lib.length := by omega
        obtain ⟨hb, cs, hown, hrow⟩ := hR.out
        rw [show lib.length - (k + 1) = lib.length - 1 - k by omega] at hown hrow
        have HST := Lib.hid (rev_step hin)
        obtain ⟨b, o, rfl, hfo⟩ := HL3.out.at_ hin
        generalize lib[k] = f at *
        obtain ⟨c7, h7, hc7⟩ := hfo.cells
        obtain ⟨A1, c1, A3, c3, rfl, hp7, hn7⟩ := id h7
        have d0 : wr.cell? ⟨b, o + k * 7, none⟩ = some (.string f.name) := below_cell hb (hc7 0 _ rfl)
        have d1 : wr.cell? ⟨b, o + k * 7 + 1, none⟩ = some (.slice A1 f.params.length c1) := below_cell hb (hc7 1 _ rfl)
        have d2 : wr.cell? ⟨b, o + k * 7 + 2, none⟩ = some (.bool f.list) := below_cell hb (hc7 2 _ rfl)
        have d3 : wr.cell? ⟨b, o + k * 7 + 3, none⟩ = some (.int .u8 f.body.kind) := below_cell hb (hc7 3 _ rfl)
        have d4 : wr.cell? ⟨b, o + k * 7 + 4, none⟩ = some (.int .i64 f.body.num) := below_cell hb (hc7 4 _ rfl)
        have d5 : wr.cell? ⟨b, o + k * 7 + 5, none⟩ = some (.string f.body.name) := below_cell hb (hc7 5 _ rfl)
        have d6 : wr.cell? ⟨b, o + k * 7 + 6, none⟩ = some (.slice A3 f.body.kids.length c3) := below_cell hb (hc7 6 _ rfl)
        have hlb := block_lt_of_cell d0
        have r1 : (0 : Int) ≤ k := by omega
        have r2 : (k : Int) < lib.length := by omega
        have HOW := Lib.hid (hown.alloc (Obj.cells #[.string f.name, .slice A1 f.params.length c1, .bool f.list, .int .u8 f.body.kind, .int .i64 f.body.num, .string f.body.name, .slice A3 f.body.kids.length c3] 55))
        have HP := Lib.hid (fun (v' : Value) (w' : World) (o : Obj) (hg : (wr.alloc o).grownBy w' _) (ho : w'.ownsRow w3.heap.size 55 7 v' _ _) => RowA.push (f := f) hb hown hrow h7 hg ho)
        have HON := Lib.hid h7.one
        have hbs := hb.size
        obtain ⟨Av, cv, rfl, hnc, _⟩ := own_formB hown
        have hln : (lib.reverse.take (lib.length - 1 - k)).length = lib.length - 1 - k := by simp; omega
        have HLN := Lib.hid hln
        clear hfo hc7 hown hrow hp7 hn7 hR h7 hb hln
        generalize (lib.reverse.take (lib.length - 1 - k)).length = nn at *
        go_wp2_with (at_builtin; go_loud (refine wpList_app _ rfl _ _ 22 rfl w3.heap.size 55 i0 (.agg #[.string ⟨#[]⟩, .slice none 0 0, .bool false, .int .u8 0, .int .i64 0, .string ⟨#[]⟩, .slice none 0 0]) 7 104 Tryd.underlying22 HI.out.1 HI.out.2.1 HI.out.2.2.1 HI.out.2.2.2 rfl (by decide) _ nn cs rfl HOW.out (some ⟨wr.heap.size, 0, none⟩) 1 1 [.string f.name, .slice A1 f.params.length c1, .bool f.list, .int .u8 f.body.kind, .int .i64 f.body.num, .string f.body.name, .slice A3 f.body.kids.length c3] rfl rfl (cells_newL wr _ _) HON.out (by have := HLN.out; unfold maxLen; omega) (by have := HLN.out; omega) (by simp; omega) ?_; intro v' w5 hown' hgrow _; have NX := Lib.hid (HP.out _ _ _ hgrow hown'); obtain ⟨A5, c5, rfl, _, _⟩ := own_formB hown'; clear hown' hgrow))
        exact ⟨⟨k, by omega, by go_num, by rw [HST.out]; exact NX⟩, by first | (simp [intOf]; done) | (simp [intOf]; omega)⟩

end Go.Proofs.YtcoeakdpcigogaaDoor

namespace Go.Proofs.YtcoeakdpcigogaaDoor
open Go.ChangeShapes Go.WideShapes Go.ChangeAt Go.RowKit
open Go.ChangeMaps (open_string)

set_option maxRecDepth 100000 in
theorem contract_anfOrder (H : Type) (enc : TypeId × Value → H) (W : World) (base : Nat) (args : Array Value) (ds gs : List (DataW H)) (before : List MemPlace)
    (hval : ∀ (j : Nat) t v, Tryd.f6.params[j]? = some t → args[j]? = some v → Value.okWide Tryd.prog W .any base t v)
    (hW : DataW.Whole enc Tryd.prog Tryd.f6.params.toList Rows.anfOrderSpec.vars false W args.toList ds gs before) (hcond : Rows.uptoSmall H (ds ++ gs) = true) (hL : laidMetH Tryd.prog Rows.anfOrderUptoRow.laid W) :
    Calls Tryd.prog 6 args W fun e W' => ∃ v, e = .returned v ∧ Rows.anfOrderSpec.post enc Tryd.prog Tryd.f6 false true false false W args v W' := by
  have hW' := hW
  obtain ⟨p, q, hA0, hV, rfl, hfz, hnd⟩ := hW
  have hA : DataW.TrodAll enc Tryd.prog W 0 (fun _ => true) true Tryd.f6.params.toList args.toList ds p := hA0
  rw [Tryd.params6] at hA hval
  obtain ⟨v0, vs0, d0, ds0, p0, q0, hargs0, rfl, rfl, h0, r0⟩ := trodAll_cons hA
  obtain ⟨rfl, rfl, rfl⟩ := trodAll_nil r0
  obtain rfl : args = #[v0] := by cases args; simp_all
  obtain ⟨A0, lib0, c0, rfl, hL0, hF0, hX0⟩ := open_libM (hval 0 _ v0 rfl rfl) h0
  have hbk : Rows.uptoBulk d0 ≤ 1048576 := by
    simp only [Rows.uptoSmall, List.cons_append, Rows.uptoBulkAll, decide_eq_true_eq] at hcond
    omega
  exact law_post (tb := 4) laidOut (by kernel_rfl) (by kernel_rfl) Tryd.underlying4 rfl hW' ⟨rfl, rfl, rfl⟩
    (law_order lib0 A0 c0 ⟨wld_of_laid hL, hL0, hF0, fun k f hk => by have := (hX0 k f hk).1; omega, fun k f hk => by have := (hX0 k f hk).2; omega⟩)

theorem laid_met_anfOrder (os : Os) : laidMet Tryd.prog Rows.anfOrderUptoRow.laid ((World.laidAll Tryd.prog os Rows.anfOrderUptoRow.laid).forCall (fun _ _ => 0) ⟨#[], #[.slice none 0 0], []⟩).memory :=
  laidMet_laidAll _ (by kernel_rfl) (by kernel_rfl)
theorem reads_anfOrder (os : Os) {H : Type} (enc : TypeId × Value → H) : ∃ places, DataW.whole enc Tryd.prog ((World.laidAll Tryd.prog os Rows.anfOrderUptoRow.laid).forCall (fun _ _ => 0) ⟨#[], #[.slice none 0 0], []⟩).memory Tryd.f6.params.toList Rows.anfOrderSpec.vars false (#[.slice none 0 0] : Array Value).toList 8 = some ([.nil], [], places) :=
  ⟨[], by kernel_rfl⟩

set_option maxRecDepth 100000 in
theorem lifted_anfOrder (os : Os) (started : os.Started) (H : Type) (enc : TypeId × Value → H) (F : Stop.Interp) :
    ReturnsInHanded {} Tryd.checked os 6 .any ((Rows.OpenSpec.upto Rows.anfOrderSpec).preRow enc Tryd.prog Tryd.f6 Rows.anfOrderUptoRow.domain false Rows.anfOrderUptoRow.laid) (((Rows.OpenSpec.upto Rows.anfOrderSpec).at F).post enc Tryd.prog Tryd.f6 false true false false) := by
  obtain ⟨places, hx⟩ := reads_anfOrder os enc
  refine returnsInHanded_of_row (C := Tryd.checked) (s := Rows.OpenSpec.upto Rows.anfOrderSpec) own started (by kernel_rfl) Tryd.func6
    (witness_row_atRef (enc := enc) (C := Tryd.checked) false (World.laidAll Tryd.prog os Rows.anfOrderUptoRow.laid) #[.slice none 0 0] (World.laidAll_os _ _ _) (by kernel_rfl) (by kernel_rfl) (by kernel_rfl)
      (OpenSpec.preRow_of_cond 8 hx (by kernel_rfl) (fun k hk => by cases hk; kernel_rfl) (by kernel_rfl) (by rw [MakeChecks.laidMetH_plain _ _ _ (by kernel_rfl)]; exact laid_met_anfOrder os))) ?_
  intro W base args ds gs before hval hW _ hcond _ hL _ _
  exact contract_anfOrder H enc W base args ds gs before hval hW (hcond _ rfl) hL

theorem said_anfOrder : Rows.AnfOrderUptoSaid :=
  OpenClaim.holds_of_cond 6 Tryd.f6 rfl rfl rfl rfl rfl rfl rfl ⟨rfl, rfl, rfl, rfl, rfl⟩ rfl rfl rfl rfl rfl (by kernel_rfl) Tryd.func6 (by kernel_rfl)
    (of_decide_eq_true (by kernel_rfl)) (by unfold Func.isWrapper; first | (rw [if_pos (by decide +kernel)]; kernel_rfl) | (rw [if_neg (by decide +kernel)]; exact ⟨rfl, rfl⟩))
    (fun os started H enc _ F => by rw [OpenClaim.pre_eq_preRow]; exact lifted_anfOrder os started H enc F)

theorem plain_anfOrder (f : FuncId) (fn : Func) (hf : Tryd.pinned.checked.prog.funcNamed "backstep/backsteplaw38.AnfOrder" = some f) (hfn : Tryd.pinned.checked.prog.funcs[f]? = some fn) :
    true = Tryd.pinned.checked.prog.looks [] ∧ ∀ (j : Nat) t, fn.params[j]? = some t → Tryd.pinned.checked.prog.wantsStandIn t = false := by
  obtain rfl : f = 6 := Option.some.inj ((show Tryd.prog.funcNamed "backstep/backsteplaw38.AnfOrder" = some 6 by kernel_rfl).symm.trans hf) |>.symm
  obtain rfl : fn = Tryd.f6 := (Option.some.inj (Tryd.func6.symm.trans hfn)).symm
  refine ⟨by kernel_rfl, fun j t ht => ?_⟩
  have hall : Tryd.f6.params.all (fun t => !Tryd.prog.wantsStandIn t) = true := by kernel_rfl
  have := Array.all_eq_true'.1 hall t (Array.mem_of_getElem? ht)
  exact (show Tryd.prog.wantsStandIn t = false by simpa using this)

/-- The card: the law's statement. -/
theorem card_anfOrder : Rows.AnfOrderUptoCardSaid :=
  Claim7.holds_tied_plain_at .later [] _ _ _ _ said_anfOrder (fun _ h => by cases h) (by kernel_rfl) (fun _ h => by cases h) anfOrderUpto_row_tie rfl ⟨rfl, rfl⟩ (by kernel_rfl) rfl plain_anfOrder (by kernel_rfl)

end Go.Proofs.YtcoeakdpcigogaaDoor

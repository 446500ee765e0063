/-
  The contracts of arith.Operators and of asm.operand.
-/
import Derived.Test.YtodiijoeeeeicaaDoorAsmWr
import Derived.Test.YtodiijoeeeeicaaDoorAsmCpr
namespace Go.Proofs.YtodiijoeeeeicaaDoor
open Go.ChangeShapes Go.WideShapes Go.ChangeAt Go.RowKit Go.Sort

def oprC (k : Nat) : List Value := (List.range k).map fun i => Value.int .u8 ((i + 8 : Nat) : Int)
theorem oprC_succ (k : Nat) : oprC (k + 1) = oprC k ++ [.int .u8 ((k + 8 : Nat) : Int)] := by unfold oprC; rw [List.range_succ, List.map_append]; rfl
set_option maxRecDepth 100000 in
set_option maxHeartbeats 1000000 in
theorem operators_any (w : World) : Calls Tryd.prog 75 #[] w fun e w' => ∃ v, e = .returned v ∧ Below w.heap.size w w' ∧ w'.ownsRow w.heap.size 5 1 v 16 (oprC 16) := by
  obtain ⟨i0, hi0, hz0, hz1, hz2⟩ := info_parts info_u8
  have HI := Lib.hid (And.intro hi0 (And.intro hz0 (And.intro hz1 hz2)))
  clear hi0 hz0 hz1 hz2
  go_enter Tryd.func75, Tryd.ntmps75
  go_wp2_with fail
  go_loopw [1, 2] (fun v i wr => ∃ k : Nat, k ≤ 16 ∧ i = .int .u8 ((k + 8 : Nat) : Int) ∧ Hid (Below w.heap.size w wr ∧ wr.ownsRow w.heap.size 5 1 v k (oprC k))) (fun _ i _ => 24 - (intOf i).toNat)
  case atStart => exact ⟨0, by omega, rfl, Below.refl _ _, World.ownsRow_nil _ _ _ _⟩
  case round =>
    obtain ⟨k, hk, rfl, h⟩ := hrel
    by_cases hin : k < 16
    · have h1 : ((k + 8 : Nat) : Int) ≤ 23 := by omega
      have h2 : (((k + 8 : Nat) : Int) + 1) % 256 = ((k + 1 + 8 : Nat) : Int) := by omega
      have hbx := below_box wr (Obj.cells #[.int .u8 ((k + 8 : Nat) : Int)] 5)
      have HO := Lib.hid (And.intro (below_step h.out.1 h.out.1.size hbx) (own_below h.out.2 hbx))
      have hs2 := HO.out.1.size
      clear hbx h
      generalize hq : ((k + 8 : Nat) : Int) = q at *
      go_wp2_with (at_builtin; go_loud (refine wpList_app _ rfl _ _ 29 rfl w.heap.size 5 i0 (.int .u8 0) 1 1 Tryd.underlying29 HI.out.1 HI.out.2.1 HI.out.2.2.1 HI.out.2.2.2 rfl (by decide) _ _ _ rfl HO.out.2 (some ⟨wr.heap.size, 0, none⟩) 1 1 [.int .u8 q] rfl rfl (cells_newU wr rfl _ _) (one_u8 _) (by unfold maxLen; omega) (by omega) hs2 ?_; intro v' w6 hown' hgrow _; have NX := Lib.hid (show Below w.heap.size w w6 ∧ w6.ownsRow w.heap.size 5 1 v' (k + 1) (oprC (k + 1)) from ⟨HO.out.1.grown hgrow hs2 (fun k hk => own_block_geB HO.out.2 k hk), by rw [oprC_succ, hq]; exact hown'⟩); clear hown' hgrow HO hs2))
      subst hq
      exact ⟨⟨k + 1, by omega, congrArg (Value.int .u8) (by omega), NX⟩, by simp [intOf]; omega⟩
    · obtain rfl : k = 16 := by omega
      go_wp2_with fail
      exact bodyPost_ret (v := u1) (by simp [results, Tryd.results75]) rfl ⟨_, rfl, h.out.1, h.out.2⟩

/-- What operand hands back. -/
def RetO (c : UInt8) (s : List UInt8) (w : World) (e : Ending) (w' : World) : Prop := Below w.heap.size w w' ∧ match rdW c s with
  | some v => e = .returned (.tuple #[.int .i64 v, .bool true])
  | none => ∃ v, e = .returned (.tuple #[.int .i64 v, .bool false])
theorem symO_none {s : List UInt8} (h : ∀ j, j < 16 → symb ((j + 8 : Nat) : Int) ≠ s) : symO s = none := by
  cases hs : symO s with
  | none => rfl
  | some v =>
    obtain ⟨h1, h2, h3⟩ := symO_some hs
    refine absurd h3 ?_
    have := h (v.toNat - 8) (by omega)
    rwa [show ((v.toNat - 8 + 8 : Nat) : Int) = v by omega] at this
theorem oprC_get {k : Nat} (h : k < 16) : (oprC 16)[k]? = some (.int .u8 ((k + 8 : Nat) : Int)) := by
  unfold oprC
  rw [List.getElem?_map, List.getElem?_range h]; rfl
theorem row16 {w : World} {B : Nat} {e : TypeId} {v : Value} (h : w.ownsRow B e 1 v 16 (oprC 16)) : ∃ g cap, v = .slice (some ⟨g, 0, none⟩) 16 cap ∧ ∀ k, k < 16 → w.cell? ⟨g, k, none⟩ = some (.int .u8 ((k + 8 : Nat) : Int)) := by
  rcases id h.2 with ⟨rfl, h0⟩ | ⟨g, cap, cur, rfl, hg, hh, hc1, hc2, hc3, hc4⟩
  · omega
  · exact ⟨g, cap, rfl, fun k hk => by rw [h.cellAt k (by omega)]; exact oprC_get hk⟩
set_option maxRecDepth 100000 in
set_option maxHeartbeats 1000000 in
theorem operand_opr (s : List UInt8) (w : World) (hS : TabS w) : Calls Tryd.prog 66 #[.int .u8 111, .string (bs s)] w (RetO 111 s w) := by
  have HS := Lib.hid hS
  clear hS
  have hbl : (bs s).toList = s := by rw [ByteArray.toList_eq, data_bs]
  go_enter Tryd.func66, Tryd.ntmps66
  go_wp2_with fail
  refine (operators_any w).mono ?_
  rintro e w1 ⟨v, rfl, hb1, ho⟩
  obtain ⟨g, cap, rfl, hc⟩ := row16 ho
  have HC := Lib.hid hc
  have HB1 := Lib.hid hb1
  clear ho hc hb1
  go_wp2_with fail
  go_loopw [17] (fun i wr => ∃ k : Nat, k ≤ 16 ∧ i = .int .i64 k ∧ Hid (Below w1.heap.size w1 wr) ∧ Hid (∀ j, j < k → symb ((j + 8 : Nat) : Int) ≠ s)) (fun i _ => 16 - (intOf i).toNat)
  case atStart => exact ⟨0, by omega, rfl, Below.refl _ _, fun j hj => by omega⟩
  case round =>
    obtain ⟨k, hk, rfl, hb, hn⟩ := hrel
    by_cases hin : k < 16
    · have hcell := below_cell hb.out (HC.out k hin)
      have HB := Lib.hid (below_step HB1.out HB1.out.size hb.out)
      have HM := Lib.hid (symbol_any (k + 8) (by omega) (by omega) wr (HS.out.mono HB.out))
      have r1 : (0 : Int) ≤ k := by omega
      have r2 : (k : Int) < 16 := by omega
      have HQ := Lib.hid (show ∃ q : Int, q = ((k + 8 : Nat) : Int) from ⟨_, rfl⟩)
      have hq2 : ((k + 8 : Nat) : Int) % 256 = ((k + 8 : Nat) : Int) := by omega
      have hq0 : (0 : Int) ≤ ((k + 8 : Nat) : Int) := by omega
      go_wp2_with (go_at_call 58; refine HM.out.mono ?_; rintro e w1 ⟨rfl, rfl⟩)
      · have hf : symb ((k + 8 : Nat) : Int) = s := by rename_i hf; simpa [ByteArray.toList_eq, data_bs] using hf
        have HO := Lib.hid (show rdW 111 s = some ((k + 8 : Nat) : Int) from by
          rw [← hf]
          have := (sym_back hin).1
          unfold rdW
          rw [if_pos rfl]
          rwa [show ((k : Int) + 8) = ((k + 8 : Nat) : Int) by omega] at this)
        exact bodyPost_ret (v := .tuple #[.int .i64 ((k + 8 : Nat) : Int), .bool true]) (by simp [results, Tryd.results66]) rfl ⟨HB.out, by rw [HO.out]⟩
      · have hf : symb ((k + 8 : Nat) : Int) ≠ s := by rename_i hf; simpa [ByteArray.toList_eq, data_bs] using hf
        exact ⟨⟨k + 1, by omega, by go_num, hb, fun j hj => by
          by_cases e : j = k
          · rw [e]; exact hf
          · exact hn.out j (by omega)⟩, by simp [intOf]; omega⟩
    · obtain rfl : k = 16 := by omega
      have HO := Lib.hid (show rdW 111 s = none from by unfold rdW; rw [if_pos rfl]; exact symO_none hn.out)
      have HB := Lib.hid (below_step HB1.out HB1.out.size hb.out)
      go_wp2_with fail
      exact bodyPost_ret (v := .tuple #[.int .i64 0, .bool false]) (by simp [results, Tryd.results66]) rfl ⟨HB.out, by rw [HO.out]; exact ⟨0, rfl⟩⟩
theorem numO_bad {y : List UInt8} (h : ∀ v, Lib.atoiAll y ≠ .ok v) : numO y = none := by
  unfold numO
  cases ha : Lib.atoiAll y with
  | ok v => exact absurd ha (h v)
  | «syntax» => rfl
  | range => rfl
theorem numO_ne {y : List UInt8} {v : Int} (h : Lib.atoiAll y = .ok v) (he : Lib.itoa v ≠ y) : numO y = none := by
  unfold numO; rw [h]; dsimp only; rw [if_neg he]
theorem numO_eq {y : List UInt8} {v : Int} (h : Lib.atoiAll y = .ok v) (he : Lib.itoa v = y) : numO y = some v := by
  unfold numO; rw [h]; dsimp only; rw [if_pos he]
set_option maxRecDepth 100000 in
set_option maxHeartbeats 1000000 in
theorem operand_num (c : UInt8) (s : List UInt8) (w : World) (hc : c ≠ 111) (hc2 : c ≠ 114) (hs : s.length < 4294967281) (hW : Wld w) : Calls Tryd.prog 66 #[.int .u8 c.toNat, .string (bs s)] w (RetO c s w) := by
  have HW := Lib.hid hW
  have c1 : (((c.toNat : Nat) : Int) == 111) = false := beq_eq_false_iff_ne.2 fun e => hc (UInt8.toNat_inj.1 (by show c.toNat = 111; omega))
  have c2 : (((c.toNat : Nat) : Int) == 114) = false := beq_eq_false_iff_ne.2 fun e => hc2 (UInt8.toNat_inj.1 (by show c.toNat = 114; omega))
  have HR := Lib.hid (show rdW c s = numO s by unfold rdW; rw [if_neg hc, if_neg hc2])
  clear hW hc hc2
  go_enter Tryd.func66, Tryd.ntmps66
  go_wp2_with fail
  refine (atoi_any s w (by omega) HW.out).mono ?_
  rintro e w4 ⟨hb4, h4⟩
  rcases h4 with ⟨v, hv, rfl⟩ | ⟨hv, x, N, rfl⟩
  · obtain ⟨v0, v1⟩ := Lib.atoiAll_bounds hv
    have HI := Lib.hid (itoa_any v w4 (HW.out.below hb4) v0 v1)
    have HB4 := Lib.hid hb4
    by_cases he : Lib.itoa v = s
    · have he1 : ((bs (Lib.itoa v)).toList == (bs s).toList) = true := by rw [eqS_eq]; simp [he]
      have HX := Lib.hid (numO_eq hv he)
      clear hv he hb4
      go_wp2_with fail
      refine HI.out.mono ?_
      rintro e w5 ⟨rfl, hb5⟩
      have HB5 := Lib.hid (below_step HB4.out HB4.out.size hb5)
      clear hb5
      go_wp2_with fail
      exact bodyPost_ret (v := .tuple #[.int .i64 v, .bool true]) (by simp [results, Tryd.results66]) rfl ⟨HB5.out, by rw [HR.out, HX.out]⟩
    · have he1 : ((bs (Lib.itoa v)).toList == (bs s).toList) = false := by
        rw [eqS_eq]; simp; exact fun e => he (bs_inj e)
      have HX := Lib.hid (numO_ne hv he)
      clear hv he hb4
      go_wp2_with fail
      refine HI.out.mono ?_
      rintro e w5 ⟨rfl, hb5⟩
      have HB5 := Lib.hid (below_step HB4.out HB4.out.size hb5)
      clear hb5
      go_wp2_with fail
      exact bodyPost_ret (v := .tuple #[.int .i64 v, .bool false]) (by simp [results, Tryd.results66]) rfl ⟨HB5.out, by rw [HR.out, HX.out]; exact ⟨v, rfl⟩⟩
  · have HX := Lib.hid (numO_bad hv)
    have HB4 := Lib.hid hb4
    clear hv hb4
    go_wp2_with fail
    exact bodyPost_ret (v := .tuple #[.int .i64 x, .bool false]) (by simp [results, Tryd.results66]) rfl ⟨HB4.out, by rw [HR.out, HX.out]; exact ⟨x, rfl⟩⟩
set_option maxRecDepth 100000 in
set_option maxHeartbeats 1000000 in
theorem operand_reg (r : List UInt8) (w : World) (hs : r.length < 4294967281) (hW : Wld w) : Calls Tryd.prog 66 #[.int .u8 114, .string (bs (114 :: r))] w (RetO 114 (114 :: r) w) := by
  have HW := Lib.hid hW
  have HR := Lib.hid (show rdW 114 (114 :: r) = numO r by unfold rdW; rw [if_neg (by decide), if_pos rfl]; dsimp only; rw [if_pos rfl])
  have HP := Lib.hid (cutpre_hit r w)
  clear hW
  generalize 114 :: r = q at *
  go_enter Tryd.func66, Tryd.ntmps66
  go_wp2_with (go_at_call 76; refine HP.out.mono ?_; rintro e w3 ⟨rfl, rfl⟩)
  refine (atoi_any r w3 (by omega) HW.out).mono ?_
  rintro e w4 ⟨hb4, h4⟩
  rcases h4 with ⟨v, hv, rfl⟩ | ⟨hv, x, N, rfl⟩
  · obtain ⟨v0, v1⟩ := Lib.atoiAll_bounds hv
    have HI := Lib.hid (itoa_any v w4 (HW.out.below hb4) v0 v1)
    have HB4 := Lib.hid hb4
    by_cases he : Lib.itoa v = r
    · have he1 : ((bs (Lib.itoa v)).toList == (bs r).toList) = true := by rw [eqS_eq]; simp [he]
      have HX := Lib.hid (numO_eq hv he)
      clear hv he hb4
      go_wp2_with fail
      refine HI.out.mono ?_
      rintro e w5 ⟨rfl, hb5⟩
      have HB5 := Lib.hid (below_step HB4.out HB4.out.size hb5)
      clear hb5
      go_wp2_with fail
      exact bodyPost_ret (v := .tuple #[.int .i64 v, .bool true]) (by simp [results, Tryd.results66]) rfl ⟨HB5.out, by rw [HR.out, HX.out]⟩
    · have he1 : ((bs (Lib.itoa v)).toList == (bs r).toList) = false := by
        rw [eqS_eq]; simp; exact fun e => he (bs_inj e)
      have HX := Lib.hid (numO_ne hv he)
      clear hv he hb4
      go_wp2_with fail
      refine HI.out.mono ?_
      rintro e w5 ⟨rfl, hb5⟩
      have HB5 := Lib.hid (below_step HB4.out HB4.out.size hb5)
      clear hb5
      go_wp2_with fail
      exact bodyPost_ret (v := .tuple #[.int .i64 v, .bool false]) (by simp [results, Tryd.results66]) rfl ⟨HB5.out, by rw [HR.out, HX.out]; exact ⟨v, rfl⟩⟩
  · have HX := Lib.hid (numO_bad hv)
    have HB4 := Lib.hid hb4
    clear hv hb4
    go_wp2_with fail
    exact bodyPost_ret (v := .tuple #[.int .i64 x, .bool false]) (by simp [results, Tryd.results66]) rfl ⟨HB4.out, by rw [HR.out, HX.out]; exact ⟨x, rfl⟩⟩
set_option maxRecDepth 100000 in
set_option maxHeartbeats 1000000 in
theorem operand_nreg (s : List UInt8) (w : World) (h : ∀ r, s ≠ 114 :: r) : Calls Tryd.prog 66 #[.int .u8 114, .string (bs s)] w (RetO 114 s w) := by
  have HR := Lib.hid (show rdW 114 s = none by
    unfold rdW
    rw [if_neg (by decide), if_pos rfl]
    cases s with
    | nil => rfl
    | cons b r => dsimp only; rw [if_neg (fun e => h r (by rw [e]))])
  have HP := Lib.hid (cutpre_miss h w)
  clear h
  go_enter Tryd.func66, Tryd.ntmps66
  go_wp2_with (go_at_call 76; refine HP.out.mono ?_; rintro e w3 ⟨rfl, rfl⟩)
  exact bodyPost_ret (v := .tuple #[.int .i64 0, .bool false]) (by simp [results, Tryd.results66]) rfl ⟨Below.refl _ _, by rw [HR.out]; exact ⟨0, rfl⟩⟩
theorem operand_any (c : UInt8) (s : List UInt8) (w : World) (hs : s.length < 4294967281) (hS : TabS w) (hW : Wld w) : Calls Tryd.prog 66 #[.int .u8 c.toNat, .string (bs s)] w (RetO c s w) := by
  by_cases h1 : c = 111
  · subst h1; exact operand_opr s w hS
  · by_cases h2 : c = 114
    · subst h2
      by_cases h3 : ∃ r, s = 114 :: r
      · obtain ⟨r, rfl⟩ := h3
        exact operand_reg r w (by simp at hs; omega) hW
      · exact operand_nreg s w (fun r e => h3 ⟨r, e⟩)
    · exact operand_num c s w h1 h2 hs hW

end Go.Proofs.YtodiijoeeeeicaaDoor

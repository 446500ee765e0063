/-
  anf.Valid: a bind.
  anf.Valid: a function's maps.
  anf.Valid: a function.
  anf.Valid.
-/
import Derived.Test.YtcoeakdpcigogaaDoorAnfVl4
namespace Go.Proofs.YtcoeakdpcigogaaDoor
open Go.ChangeShapes Go.WideShapes Go.ChangeAt Go.RowKit Go.Sort Go.Maps

variable {W0 w w' : World} {V L T S B : Nat} {lib : ByteArray → Option Af} {tp : Sc} {nS nB : Nat} {sc : Sc} {bd : Bn}
theorem retBd_none {r : Option Bn} {sz : Nat} (hr : r = none) (hb : Below w.heap.size w w') : RetBd W0 V L T S B lib tp nS nB sc r sz w (.returned (.bool false)) w' := ⟨by rw [hr]; rfl, Fr.of_below hb _, fun bd' e => by rw [hr] at e; cases e⟩
theorem retBd_some {r : Option Bn} {sz : Nat} (h : Ck W0 w V L T S B lib tp nS nB sc bd) (hr : r = some bd) (hb : Below w.heap.size w w') : RetBd W0 V L T S B lib tp nS nB sc r sz w (.returned (.bool true)) w' := ⟨by rw [hr]; rfl, Fr.of_below hb _, fun bd' e => by
  rw [hr] at e; cases e
  exact ⟨nS, nB, by omega, by omega, h.below hb⟩⟩
/-- With a test's answer. -/
theorem retBd_if {r : Option Bn} {sz : Nat} (h : Ck W0 w V L T S B lib tp nS nB sc bd) {c : Bool} (hr : r = if c = true then some bd else none) (hb : Below w.heap.size w w') : RetBd W0 V L T S B lib tp nS nB sc r sz w (.returned (.bool c)) w' := by
  cases c with
  | false => exact retBd_none (by rw [hr]; rfl) hb
  | true => exact retBd_some h (by rw [hr]; rfl) hb
theorem operT_len (op : Nat) : (operT op).1.length ≤ 2 := by
  unfold operT
  repeat' split
  all_goals simp
/-- The types so far. -/
structure TyR (sc : Sc) (args : List ByteArray) (W wr : World) (v : Value) (k : Nat) (ts : List Bool) : Prop where
  hb : Below W.heap.size W wr
  own : wr.ownsRow W.heap.size 4 1 v k (ts.map Value.bool)
  ty : typesA sc (args.take k) = some ts
theorem TyR.start (sc : Sc) (args : List ByteArray) (W : World) : TyR sc args W W (.slice none 0 0) 0 [] := ⟨Below.refl _ _, ⟨rfl, .inl ⟨rfl, rfl⟩⟩, by rw [List.take_zero, typesA]⟩
theorem TyR.push {args : List ByteArray} {W wr w9 : World} {v v' : Value} {k : Nat} {ts : List Bool} {t : Bool} (h : TyR sc args W wr v k ts) {o : Obj} (hk : k < args.length) (ht : sc args[k] = some t) (hown : w9.ownsRow W.heap.size 4 1 v' (k + 1) (ts.map Value.bool ++ [.bool t])) (hg : (wr.alloc o).grownBy w9 v.ownBlock) : TyR sc args W w9 v' (k + 1) (ts ++ [t]) := by
  have hge := fun g e => (own_ty h.own g e).1
  refine ⟨((Fr.of_below (below_box wr o) (fun j => some j = v.ownBlock)).trans (Fr.of_grown hg) fun _ _ e => e).toBelow h.hb h.hb.size (fun j e => hge j e.symm), by rw [List.map_append]; exact hown, ?_⟩
  rw [List.take_succ_eq_append_getElem hk]
  exact typesA_snoc h.ty ht

set_option maxRecDepth 100000 in
set_option maxHeartbeats 8000000 in
theorem bind_of (hlib : ∀ s f, lib s = some f → f.params.length ≤ 1000) {t : Bd} (hT : BranchC W0 V L T S B lib tp t.thn) (hE : BranchC W0 V L T S B lib tp t.els) : BindC W0 V L T S B lib tp t := by
  intro nS nB sc bd w cs h hcs hfit hsS hsB
  have HLIB := Lib.hid (hlib t.name)
  have HBR := Lib.hid (And.intro hT hE)
  have HCS := Lib.hid hcs
  have HF := Lib.hid hfit.facts
  have HFIT := Lib.hid hfit
  have HSZ := Lib.hid (show nS + bszL t.thn + bszL t.els ≤ 1000000 ∧ nB + bszL t.thn + bszL t.els ≤ 1000000 by have := bszT_eq t; omega)
  obtain ⟨Aa, ca, At, ct, Ae, ce, rfl, hsA, hsT, hsE⟩ := hcs
  have HDA := Lib.hid (And.intro hsA (And.intro hsT hsE))
  have HCK0 := Lib.hid h
  have hbx := below_box w (Obj.cells #[.string t.to, .bool t.list, .int .u8 t.op, .int .i64 t.num, .string t.name, .slice Aa t.args.length ca, .slice At t.thn.length ct, .slice Ae t.els.length ce] 67)
  have rbx := bx_new w #[.string t.to, .bool t.list, .int .u8 t.op, .int .i64 t.num, .string t.name, .slice Aa t.args.length ca, .slice At t.thn.length ct, .slice Ae t.els.length ce] 67
  have HCK := Lib.hid (h.below hbx)
  have HBX := Lib.hid hbx
  have HRX := Lib.hid rbx
  have HEQ := Lib.hid (bndB_eq lib tp t sc bd)
  clear h hbx rbx hsA hsT hsE hfit hlib hT hE hsS hsB
  go_enter Tryd.func55, Tryd.ntmps55
  go_upto_region 1 with fail
  generalize w.alloc _ = W at HCK HBX HRX ⊢
  obtain ⟨x0, x1, x2, x3, hlv⟩ := HCK.out.cells
  obtain ⟨⟨a0, a1, a2, a3, a4, a5, a6, a7⟩, _⟩ := HRX.out.eight
  have hlb := HRX.out.lt
  obtain ⟨nT, htm⟩ := HCK.out.tm
  have k1 := (htm.below (belowDrawnP (Below.refl _ W))).look t.to HF.out.1
  have k2 := (HCK.out.sm.below (belowDrawnP (belowDrawnP (Below.refl _ W)))).look t.to HF.out.1
  clear htm
  by_cases e1 : tp t.to = some t.list
  rotate_left
  · have HE := Lib.hid (retBd_none (W0 := W0) (V := V) (L := L) (T := T) (S := S) (B := B) (lib := lib) (tp := tp) (nS := nS) (nB := nB) (sc := sc) (sz := bszL t.thn + bszL t.els) (HEQ.out.trans (if_pos e1)) (belowDrawnP HBX.out))
    cases e2 : tp t.to with
    | none =>
      rw [e2] at k1
      dsimp only [Option.isSome, Option.getD] at k1
      clear e1 e2
      go_region
      go_wp2_with fail
      go_ret
      exact HE.out
    | some v =>
      rw [e2] at k1
      dsimp only [Option.isSome, Option.getD] at k1
      have hv : (v == t.list) = false := beq_eq_false_iff_ne.2 (fun e => e1 (by rw [e2, e]))
      clear e1 e2
      go_region
      go_wp2_with fail
      go_ret
      exact HE.out
  rw [e1] at k1
  dsimp only [Option.isSome, Option.getD] at k1
  have HEQ2 := Lib.hid (HEQ.out.trans (if_neg (fun h => h e1)))
  clear e1 HEQ
  by_cases e2 : (sc t.to).isSome = true
  · have HE := Lib.hid (retBd_none (W0 := W0) (V := V) (L := L) (T := T) (S := S) (B := B) (lib := lib) (tp := tp) (nS := nS) (nB := nB) (sc := sc) (sz := bszL t.thn + bszL t.els) (HEQ2.out.trans (if_pos e2)) (belowDrawnP (belowDrawnP HBX.out)))
    go_region
    go_wp2_with fail
    go_region
    go_wp2_with fail
    go_ret
    exact HE.out
  have HEQ3 := Lib.hid (HEQ2.out.trans (if_neg e2))
  have e2' : (sc t.to).isSome = false := by simpa using e2
  clear e2 HEQ2
  go_region
  go_wp2_with fail
  go_region
  go_wp2_with fail
  have HCK1 := Lib.hid (HCK.out.below (belowDrawnP (belowDrawnP (Below.refl _ W))))
  have HRX1 := Lib.hid (HRX.out.below (belowDrawnP (belowDrawnP (Below.refl _ W))))
  have HB1 := Lib.hid (belowDrawnP (belowDrawnP HBX.out))
  clear k1 k2 x0 x1 x2 x3 hlv a0 a1 a2 a3 a4 a5 a6 a7 hlb HCK HRX HBX e2'
  generalize W.drew.drew = W1 at HCK1 HRX1 HB1 ⊢
  obtain ⟨i0, hi0, hz0, hz1, hz2⟩ := info_parts info_bool
  have HI := Lib.hid (And.intro hi0 (And.intro hz0 (And.intro hz1 hz2)))
  clear hi0 hz0 hz1 hz2
  go_loopw [9, 48] (fun v i wr => ∃ (k : Nat) (ts : List Bool), k ≤ t.args.length ∧ i = .int .i64 k ∧ Hid (TyR sc t.args W1 wr v k ts)) (fun _ i _ => t.args.length - (intOf i).toNat)
  case atStart => exact ⟨0, [], by omega, rfl, Lib.hid (TyR.start _ _ _)⟩
  case round =>
    obtain ⟨k, ts, hk, rfl, htr⟩ := hrel
    have HCKr := Lib.hid (HCK1.out.below htr.out.hb)
    have HBr := Lib.hid (below_step HB1.out HB1.out.size htr.out.hb)
    by_cases hin : k < t.args.length
    · obtain ⟨b1, o1, rfl, _, c0⟩ := HDA.out.1 k _ (List.getElem?_eq_getElem hin)
      have c1 := below_cell HCKr.out.bw c0
      have hasz := HF.out.2.2.1 _ (List.getElem_mem hin)
      have hal := HF.out.2.2.2.1
      have HPU := Lib.hid (fun (ty : Bool) (ht : sc t.args[k] = some ty) => fun (v' : Value) (w9 : World) (o : Obj) (hown : w9.ownsRow W1.heap.size 4 1 v' (k + 1) (ts.map Value.bool ++ [.bool ty])) hg => TyR.push htr.out (o := o) hin ht hown hg)
      have HNO := Lib.hid (fun (hn : sc t.args[k] = none) => typesA_none (List.getElem?_eq_getElem hin) hn)
      obtain ⟨x0, x1, x2, x3, hlv⟩ := HCKr.out.cells
      have hls := block_lt_of_cell c1
      have k3 := HCKr.out.sm.look t.args[k] hasz
      have HOW := Lib.hid htr.out.own
      obtain ⟨Av, cv, rfl, hcv, hqq⟩ := own_formB htr.out.own
      have hszb := htr.out.hb.size
      have rk1 : (0 : Int) ≤ k := by omega
      clear c0 hqq htr
      generalize t.args[k] = ak at *
      cases ea : sc ak with
      | none =>
        rw [ea] at k3
        dsimp only [Option.isSome, Option.getD] at k3
        have HE := Lib.hid (retBd_none (W0 := W0) (V := V) (L := L) (T := T) (S := S) (B := B) (lib := lib) (tp := tp) (nS := nS) (nB := nB) (sc := sc) (sz := bszL t.thn + bszL t.els) (r := bndB lib tp t sc bd) (by rw [HEQ3.out, HNO.out ea]) HBr.out)
        clear ea
        go_wp2_with fail
        go_ret
        exact HE.out
      | some ty =>
        rw [ea] at k3
        dsimp only [Option.isSome, Option.getD] at k3
        have HPU2 := Lib.hid (HPU.out ty ea)
        clear ea HPU
        go_wp2_with (at_builtin; go_loud (refine wpList_app _ rfl _ _ 138 rfl W1.heap.size 4 i0 (.bool false) 1 1 Tryd.underlying138 HI.out.1 HI.out.2.1 HI.out.2.2.1 HI.out.2.2.2 rfl (by decide) (.slice Av k cv) k (ts.map Value.bool) rfl (own_below HOW.out (below_box wr _)) (some ⟨wr.heap.size, 0, none⟩) 1 1 [.bool ty] rfl rfl (cells_newC wr rfl _ _) (fun u hu => by simp at hu; subst hu; rfl) (by unfold maxLen; omega) (by omega) (by simp; omega) ?_; intro v' w9 hown' hgrow hat))
        exact ⟨⟨k + 1, ts ++ [ty], by omega, by go_num, Lib.hid (HPU2.out v' w9 _ hown' hgrow)⟩, by simp [intOf]; omega⟩
    · obtain rfl : k = t.args.length := by omega
      have hty := htr.out.ty
      rw [List.take_length] at hty
      have HTY := Lib.hid hty
      have hlt := typesA_len hty
      have hob := htr.out.own
      rw [← hlt] at hob
      obtain ⟨As, cs, rfl, hbls⟩ := bls_of_own hob
      have HEQ4 := Lib.hid (show bndB lib tp t sc bd = if fieldsB t = false then none
        else if t.op = 81 then (if ts = [t.list] then some bd else none)
        else if t.op = 85 then (if callB lib tp t ts = true then some bd else none)
        else if t.op = 83 then (if ts = [false] then (match brB lib tp t.to t.thn sc bd with
          | none => none
          | some bd1 => brB lib tp t.to t.els sc bd1) else none)
        else (if ts = (operT t.op).1 ∧ (operT t.op).2 = t.list then some bd else none) by rw [HEQ3.out, hty]; rfl)
      have HBL := Lib.hid hbls
      have HLT := Lib.hid hlt
      have HRXr := Lib.hid (HRX1.out.below htr.out.hb)
      have HFD := Lib.hid (fieldsV_any wr t.op t.num t.name t.thn.length t.els.length t.to t.list t.args.length Aa At Ae ca ct ce (by have := HSZ.out; have := bszL_len t.thn; omega) (by have := HSZ.out; have := bszL_len t.els; omega))
      rw [← fields_eq] at HFD
      clear hty hob hbls htr hlt HEQ3 HCK1 HRX1
      obtain ⟨⟨a0, a1, a2, a3, a4, a5, a6, a7⟩, _⟩ := HRXr.out.eight
      have hlb := HRXr.out.lt
      go_wp2_with fail
      refine HFD.out.mono ?_
      clear HFD a0 a1 a2 a3 a4 a5 a6 a7 hlb
      rintro e w2 ⟨rfl, hb2⟩
      have HB2 := Lib.hid (below_step HBr.out HBr.out.size hb2)
      have HCK2 := Lib.hid (HCKr.out.below hb2)
      have HRX2 := Lib.hid (HRXr.out.below hb2)
      have HBL2 := Lib.hid (HBL.out.mono hb2)
      clear hb2 HCKr HRXr HBL HBr
      cases hfb : fieldsB t with
      | false =>
        have HE := Lib.hid (retBd_none (W0 := W0) (V := V) (L := L) (T := T) (S := S) (B := B) (lib := lib) (tp := tp) (nS := nS) (nB := nB) (sc := sc) (sz := bszL t.thn + bszL t.els) (r := bndB lib tp t sc bd) (HEQ4.out.trans (if_pos hfb)) HB2.out)
        go_wp2_with fail
        go_ret
        exact HE.out
      | true =>
        have HEQ5 := Lib.hid (HEQ4.out.trans (if_neg (fun h => by rw [hfb] at h; cases h)))
        obtain ⟨⟨a0, a1, a2, a3, a4, a5, a6, a7⟩, _⟩ := HRX2.out.eight
        have hlb := HRX2.out.lt
        clear hfb HEQ4
        by_cases h81 : t.op = 81
        · have hq : ((t.op : Int) == 81) = true := by rw [h81]; rfl
          have HEQ6 := Lib.hid (HEQ5.out.trans (if_pos h81))
          clear HEQ5 h81
          by_cases hl1 : ts.length = 1
          · obtain ⟨x, rfl⟩ : ∃ x, ts = [x] := List.length_eq_one_iff.1 hl1
            have HE := Lib.hid (retBd_if (W0 := W0) (V := V) (L := L) (T := T) (S := S) (B := B) (lib := lib) (tp := tp) (nS := nS) (nB := nB) (sc := sc) (sz := bszL t.thn + bszL t.els) (r := bndB lib tp t sc bd) (c := x == t.list) HCK0.out (HEQ6.out.trans (by simp)) (belowDrawnP HB2.out))
            obtain ⟨b, o, rfl, hc⟩ := HBL2.out.at_ (k := 0) (by simp)
            rw [Nat.add_zero, List.getElem_cons_zero] at hc
            have hlc := block_lt_of_cell hc
            clear hl1
            go_wp2_with fail
            go_region
            go_wp2_with fail
            go_ret
            exact HE.out
          · have HE := Lib.hid (retBd_none (W0 := W0) (V := V) (L := L) (T := T) (S := S) (B := B) (lib := lib) (tp := tp) (nS := nS) (nB := nB) (sc := sc) (sz := bszL t.thn + bszL t.els) (r := bndB lib tp t sc bd) (HEQ6.out.trans (if_neg (fun e => hl1 (by rw [e]; rfl)))) (belowDrawnP HB2.out))
            have hq1 : ((ts.length : Int) == 1) = false := beq_eq_false_iff_ne.2 (by omega)
            clear hl1
            go_wp2_with fail
            go_region
            go_wp2_with fail
            go_ret
            exact HE.out
        have n81 := kindF h81
        have HEQ6 := Lib.hid (HEQ5.out.trans (if_neg h81))
        clear HEQ5 h81
        by_cases h85 : t.op = 85
        · have hq : ((t.op : Int) == 85) = true := by rw [h85]; rfl
          have HVC := Lib.hid (vcall_any HCK2.out t HFIT.out Aa At Ae As ca ct ce cs ts HDA.out.1 HBL2.out HLT.out HLIB.out)
          have HEQ7 := Lib.hid (HEQ6.out.trans (if_pos h85))
          have h85' := Lib.hid h85
          clear h85
          go_wp2_with fail
          refine HVC.out.mono ?_
          rintro e w3 ⟨rfl, hb3⟩
          have HE := Lib.hid (retBd_if (sz := bszL t.thn + bszL t.els) (c := callB lib tp t ts) HCK0.out HEQ7.out (below_step HB2.out HB2.out.size hb3))
          clear hb3
          go_wp2_with fail
          go_ret
          exact HE.out
        have n85 := kindF h85
        have HEQ7 := Lib.hid (HEQ6.out.trans (if_neg h85))
        clear HEQ6 h85
        by_cases h83 : t.op = 83
        · have hq : ((t.op : Int) == 83) = true := by rw [h83]; rfl
          have HEQ8 := Lib.hid (HEQ7.out.trans (if_pos h83))
          clear HEQ7 h83
          have hb3 := below_box w2 (Obj.cells #[.bool false] 4)
          have HB3 := Lib.hid (below_step HB2.out HB2.out.size hb3)
          have HCK3 := Lib.hid (HCK2.out.below hb3)
          have HRX3 := Lib.hid (HRX2.out.below hb3)
          have HEB := Lib.hid (eqB_any ts [false] As (some ⟨w2.heap.size, 0, none⟩) cs 1 _ (HBL2.out.mono hb3) (bls_new w2 4 [false] #[.bool false] rfl) (by have := HLT.out; have := HF.out.2.2.2.1; omega) (by simp))
          clear hb3
          go_wp2_with fail
          refine HEB.out.mono ?_
          clear HEB a0 a1 a2 a3 a4 a5 a6 a7 hlb
          generalize w2.alloc _ = w3 at HB3 HCK3 HRX3 ⊢
          rintro e w4 ⟨rfl, hb4⟩
          have HB4 := Lib.hid (below_step HB3.out HB3.out.size hb4)
          have HCK4 := Lib.hid (HCK3.out.below hb4)
          have HRX4 := Lib.hid (HRX3.out.below hb4)
          clear hb4
          by_cases hts : ts = [false]
          rotate_left
          · have HE := Lib.hid (retBd_none (W0 := W0) (V := V) (L := L) (T := T) (S := S) (B := B) (lib := lib) (tp := tp) (nS := nS) (nB := nB) (sc := sc) (sz := bszL t.thn + bszL t.els) (r := bndB lib tp t sc bd) (HEQ8.out.trans (if_neg hts)) HB4.out)
            have hq1 : decide (ts = [false]) = false := decide_eq_false hts
            clear hts
            go_wp2_with fail
            go_ret
            exact HE.out
          have HEQ9 := Lib.hid (HEQ8.out.trans (if_pos hts))
          have hq1 : decide (ts = [false]) = true := decide_eq_true hts
          clear hts HEQ8
          obtain ⟨⟨a0, a1, a2, a3, a4, a5, a6, a7⟩, _⟩ := HRX4.out.eight
          have hlb := HRX4.out.lt
          have HB1 := Lib.hid (HBR.out.1 t.to nS nB sc bd w4 At ct HCK4.out HDA.out.2.1 HF.out.2.2.2.2.1 (by have := HSZ.out; omega) (by have := HSZ.out; omega))
          have HLS := Lib.hid (And.intro HCK0.out.sm.lt HCK0.out.bm.lt)
          go_wp2_with fail
          refine HB1.out.mono ?_
          clear HB1 a0 a1 a2 a3 a4 a5 a6 a7 hlb
          rintro e w5 ⟨rfl, hf5, hr5⟩
          have HF5 := Lib.hid ((Fr.of_below HB4.out (SB S B)).trans hf5 fun _ _ e => e)
          have HRX5 := Lib.hid (HRX4.out.fr hf5 (fun e => by have := HLS.out; rcases e with e | e <;> (have e' : w.heap.size = _ := e; omega)))
          cases hbr : brB lib tp t.to t.thn sc bd with
          | none =>
            have HE := Lib.hid (show RetBd W0 V L T S B lib tp nS nB sc (bndB lib tp t sc bd) (bszL t.thn + bszL t.els) w (.returned (.bool false)) w5 from ⟨by rw [HEQ9.out, hbr]; rfl, HF5.out, fun bd' e => by rw [HEQ9.out, hbr] at e; cases e⟩)
            clear hf5 hr5 hbr
            go_wp2_with fail
            go_ret
            exact HE.out
          | some bd1 =>
            obtain ⟨nS1, nB1, hn1, hn2, hck5⟩ := hr5 bd1 hbr
            have HEQA := Lib.hid (show bndB lib tp t sc bd = brB lib tp t.to t.els sc bd1 by rw [HEQ9.out, hbr])
            have HB2' := Lib.hid (HBR.out.2 t.to nS1 nB1 sc bd1 w5 Ae ce hck5 HDA.out.2.2 HF.out.2.2.2.2.2 (by have := HSZ.out; omega) (by have := HSZ.out; omega))
            obtain ⟨⟨a0, a1, a2, a3, a4, a5, a6, a7⟩, _⟩ := HRX5.out.eight
            have hlb := HRX5.out.lt
            clear hf5 hr5 hbr HEQ9 hck5
            go_wp2_with fail
            refine HB2'.out.mono ?_
            clear HB2' a0 a1 a2 a3 a4 a5 a6 a7 hlb
            rintro e w6 ⟨rfl, hf6, hr6⟩
            have HE := Lib.hid (show RetBd W0 V L T S B lib tp nS nB sc (bndB lib tp t sc bd) (bszL t.thn + bszL t.els) w (.returned (.bool (brB lib tp t.to t.els sc bd1).isSome)) w6 from ⟨by rw [HEQA.out], HF5.out.trans hf6 fun _ _ e => e, fun bd' e => by
              rw [HEQA.out] at e
              obtain ⟨nS2, nB2, q1, q2, q3⟩ := hr6 bd' e
              exact ⟨nS2, nB2, by omega, by omega, q3⟩⟩)
            clear hf6 hr6
            go_wp2_with fail
            go_ret
            exact HE.out
        have n83 := kindF h83
        have HEQ8 := Lib.hid (HEQ7.out.trans (if_neg h83))
        clear HEQ7 h83
        have HOP := Lib.hid (operation_any w2 t.op)
        go_wp2_with fail
        refine HOP.out.mono ?_
        rintro e w3 ⟨A3, c3, rfl, hbl3, hb3⟩
        have HB3 := Lib.hid (below_step HB2.out HB2.out.size hb3)
        have HRX3 := Lib.hid (HRX2.out.below hb3)
        have HEB := Lib.hid (eqB_any ts (operT t.op).1 As A3 cs c3 w3 (HBL2.out.mono hb3) hbl3 (by have := HLT.out; have := HF.out.2.2.2.1; omega) (by have := operT_len t.op; omega))
        generalize operT t.op = qo at *
        clear hb3 hbl3 HOP a0 a1 a2 a3 a4 a5 a6 a7 hlb
        go_wp2_with fail
        refine HEB.out.mono ?_
        clear HEB
        rintro e w4 ⟨rfl, hb4⟩
        have HB4 := Lib.hid (below_step HB3.out HB3.out.size hb4)
        have HRX4 := Lib.hid (HRX3.out.below hb4)
        obtain ⟨⟨a0, a1, a2, a3, a4, a5, a6, a7⟩, _⟩ := HRX4.out.eight
        have hlb := HRX4.out.lt
        clear hb4
        by_cases hts : ts = qo.1
        · have HE := Lib.hid (retBd_if (W0 := W0) (V := V) (L := L) (T := T) (S := S) (B := B) (lib := lib) (tp := tp) (nS := nS) (nB := nB) (sc := sc) (sz := bszL t.thn + bszL t.els) (r := bndB lib tp t sc bd) (c := qo.2 == t.list) HCK0.out (HEQ8.out.trans (by simp [hts])) HB4.out)
          have hq1 : decide (ts = qo.1) = true := decide_eq_true hts
          clear hts
          go_wp2_with fail
          go_ret
          exact HE.out
        · have HE := Lib.hid (retBd_none (W0 := W0) (V := V) (L := L) (T := T) (S := S) (B := B) (lib := lib) (tp := tp) (nS := nS) (nB := nB) (sc := sc) (sz := bszL t.thn + bszL t.els) (r := bndB lib tp t sc bd) (HEQ8.out.trans (if_neg (fun h => hts h.1))) HB4.out)
          have hq1 : decide (ts = qo.1) = false := decide_eq_false hts
          clear hts
          go_wp2_with fail
          go_ret
          exact HE.out

theorem bszL_mem {l : List Bd} {y : Bd} (h : y ∈ l) : bszT y ≤ bszL l := by
  induction l with
  | nil => cases h
  | cons b r ih =>
    rw [bszL]
    rcases List.mem_cons.1 h with e | e
    · subst e; omega
    · have := ih e; omega
theorem bindC_le (hlib : ∀ s f, lib s = some f → f.params.length ≤ 1000) : ∀ (n : Nat) (t : Bd), bszT t ≤ n → BindC W0 V L T S B lib tp t
  | 0, t, h => by rw [bszT_eq] at h; omega
  | n + 1, t, h => by
    have h2 := bszT_eq t
    exact bind_of hlib (branch_of _ fun y hy => bindC_le hlib n y (by have := bszL_mem hy; omega)) (branch_of _ fun y hy => bindC_le hlib n y (by have := bszL_mem hy; omega))
theorem vbind_any (hlib : ∀ s f, lib s = some f → f.params.length ≤ 1000) (t : Bd) : BindC W0 V L T S B lib tp t := bindC_le hlib _ t (Nat.le_refl _)

end Go.Proofs.YtcoeakdpcigogaaDoor

namespace Go.Proofs.YtcoeakdpcigogaaDoor
open Go.ChangeShapes Go.WideShapes Go.ChangeAt Go.RowKit Go.Sort Go.Maps

theorem scP_step {l : List Pm} {k : Nat} (h : k < l.length) : scP (l.take (k + 1)) = setS (scP (l.take k)) l[k].name (some l[k].list) := by
  unfold scP
  rw [List.take_succ_eq_append_getElem h, List.foldl_append]; rfl
theorem scP_some (l : List Pm) (q : ByteArray) : (scP l q).isSome = true ↔ q ∈ l.map Pm.name := by
  unfold scP
  have key : ∀ (l : List Pm) (e : Sc), (l.foldl (fun sc p => setS sc p.name (some p.list)) e q).isSome = true ↔ (q ∈ l.map Pm.name ∨ (e q).isSome = true) := by
    intro l
    induction l with
    | nil => intro e; simp
    | cons p r ih =>
      intro e
      rw [List.foldl_cons, ih, List.map_cons, List.mem_cons]
      unfold setS
      by_cases h : q = p.name
      · rw [if_pos h]; simp [h]
      · rw [if_neg h]
        constructor
        · rintro (h1 | h1)
          · exact .inl (.inr h1)
          · exact .inr h1
        · rintro ((h1 | h1) | h1)
          · exact absurd h1 h
          · exact .inl h1
          · exact .inr h1
  rw [key]; simp
/-- A map of declarations, with its size. -/
def ScZ (w : World) (b k : Nat) (l : List Pm) : Prop := ∃ sz, MapG (.bool false) w b k sz (fun s => (scP (l.take k) s).map Value.bool) ∧ sz ≤ k ∧ (sz = k ↔ ((l.take k).map Pm.name).Nodup)
variable {w w' : World} {b k : Nat} {l : List Pm}
theorem ScZ.sc (h : ScZ w b k l) : ScM w b k (scP (l.take k)) := by
  obtain ⟨sz, h1, _⟩ := h; exact ⟨sz, h1⟩
theorem ScZ.fr (h : ScZ w b k l) {m : Nat → Prop} (hf : Fr w w' m) (hn : ¬ m b) : ScZ w' b k l := by
  obtain ⟨sz, h1, h2⟩ := h; exact ⟨sz, h1.fr hf hn, h2⟩
theorem ScZ.lt (h : ScZ w b k l) : b < w.heap.size := by
  obtain ⟨sz, h1, _⟩ := h; exact h1.lt
theorem scZ_made (w : World) (l : List Pm) : ScZ (w.alloc (.map #[] 0)) w.heap.size 0 l := ⟨0, (mapG_made _ w).congr fun s => by rw [List.take_zero]; rfl, Nat.le_refl _, by rw [List.take_zero]; simp⟩
theorem ScZ.put (h : ScZ w b k l) (hk : k < l.length) (hn : k < 1000000000) (hs : l[k].name.size ≤ 9223372036854775807) : ∃ w', (Instr.mapUpdate 122 (.map (some b)) (.string l[k].name) (.bool l[k].list)).run Tryd.prog w = .ok () w' ∧ ScZ w' b (k + 1) l ∧ Fr w w' (fun j => j = b) := by
  obtain ⟨sz, h1, h2, h3⟩ := h
  obtain ⟨w', e1, e2, e3⟩ := mapG_put Tryd.underlying122 h1 (by unfold maxLen; omega) l[k].name hs (.bool l[k].list)
  have hsome : ((scP (l.take k) l[k].name).map Value.bool).isSome = true ↔ l[k].name ∈ (l.take k).map Pm.name := by
    rw [Option.isSome_map]; exact scP_some _ _
  refine ⟨w', e1, ⟨_, e2.congr fun t => ?_, ?_, ?_⟩, Fr.of_turned e3⟩
  · rw [scP_step hk]; exact congrFun (ScM.map_set (scP (l.take k)) l[k].name (some l[k].list)) t
  · split <;> omega
  · rw [List.take_succ_eq_append_getElem hk, List.map_append, List.map_cons, List.map_nil, nodup_snoc]
    by_cases hm : l[k].name ∈ (l.take k).map Pm.name
    · rw [if_pos (hsome.2 hm)]
      constructor
      · intro e; omega
      · rintro ⟨_, e⟩; exact absurd hm e
    · rw [if_neg (fun e => hm (hsome.1 e))]
      constructor
      · intro e; exact ⟨h3.1 (by omega), hm⟩
      · rintro ⟨e, _⟩; have := h3.2 e; omega
/-- Its length, as the machine sees it. -/
theorem MapG.len {z : Value} {n sz : Nat} {env : ByteArray → Option Value} {t e : TypeId} (h : MapG z w b n sz env) (ht : Tryd.prog.underlying t = some (.map 9 e)) (ty : TypeId) : (Builtin.len_ #[t] ty #[.map (some b)]).run Tryd.prog w = .ok (.int .i64 sz) w := by
  obtain ⟨D, h1, h2, _⟩ := h
  rw [h1.len ht ty, h2]
/-- What a function must fit. -/
structure AfFit (f : Af) : Prop where
  pn : ∀ p ∈ f.params, p.name.size ≤ 9223372036854775807
  tn : ∀ p ∈ f.temps, p.name.size ≤ 9223372036854775807
  pl : f.params.length ≤ 1000
  tl : f.temps.length ≤ 100000
  bd : ∀ y ∈ f.body, BdFit y
  bl : bszL f.body ≤ 100000
  rs : f.result.size ≤ 9223372036854775807
theorem bodyB_step {lib : ByteArray → Option Af} {tp : Sc} {l : List Bd} {k : Nat} {sc : Sc} {bd : Bn} (h : k < l.length) : bodyB lib tp (l.drop k) sc bd = match bndB lib tp l[k] sc bd with
    | none => none
    | some bd1 => bodyB lib tp (l.drop (k + 1)) (setS sc l[k].to (some l[k].list)) (incB bd1 l[k].to) := by
  rw [List.drop_eq_getElem_cons h, bodyB]
  cases bndB lib tp l[k] sc bd <;> rfl
theorem four_made (w : World) (L : Nat) (T : TypeId) : Below w.heap.size w ((((w.alloc (.map #[] 0)).alloc (.map #[] 0)).alloc (.map #[] 0)).alloc (Obj.cells #[.map (some L), .map (some w.heap.size), .map (some (w.heap.size + 1)), .map (some (w.heap.size + 1 + 1))] T)) ∧ (∀ l, ScZ ((((w.alloc (.map #[] 0)).alloc (.map #[] 0)).alloc (.map #[] 0)).alloc (Obj.cells #[.map (some L), .map (some w.heap.size), .map (some (w.heap.size + 1)), .map (some (w.heap.size + 1 + 1))] T)) w.heap.size 0 l) ∧ (∀ l, ScZ ((((w.alloc (.map #[] 0)).alloc (.map #[] 0)).alloc (.map #[] 0)).alloc (Obj.cells #[.map (some L), .map (some w.heap.size), .map (some (w.heap.size + 1)), .map (some (w.heap.size + 1 + 1))] T)) (w.heap.size + 1) 0 l) ∧ BnM ((((w.alloc (.map #[] 0)).alloc (.map #[] 0)).alloc (.map #[] 0)).alloc (Obj.cells #[.map (some L), .map (some w.heap.size), .map (some (w.heap.size + 1)), .map (some (w.heap.size + 1 + 1))] T)) (w.heap.size + 1 + 1) 0 (fun _ => 0) ∧ Bx ((((w.alloc (.map #[] 0)).alloc (.map #[] 0)).alloc (.map #[] 0)).alloc (Obj.cells #[.map (some L), .map (some w.heap.size), .map (some (w.heap.size + 1)), .map (some (w.heap.size + 1 + 1))] T)) (w.heap.size + 1 + 1 + 1) #[.map (some L), .map (some w.heap.size), .map (some (w.heap.size + 1)), .map (some (w.heap.size + 1 + 1))] ∧ ((((w.alloc (.map #[] 0)).alloc (.map #[] 0)).alloc (.map #[] 0)).alloc (Obj.cells #[.map (some L), .map (some w.heap.size), .map (some (w.heap.size + 1)), .map (some (w.heap.size + 1 + 1))] T)).heap.size = w.heap.size + 4 := by
  have b1 := below_box w (.map #[] 0)
  have b2 := below_box (w.alloc (.map #[] 0)) (.map #[] 0)
  have b3 := below_box ((w.alloc (.map #[] 0)).alloc (.map #[] 0)) (.map #[] 0)
  have b4 := below_box (((w.alloc (.map #[] 0)).alloc (.map #[] 0)).alloc (.map #[] 0)) (Obj.cells #[.map (some L), .map (some w.heap.size), .map (some (w.heap.size + 1)), .map (some (w.heap.size + 1 + 1))] T)
  have s1 : (w.alloc (.map #[] 0)).heap.size = w.heap.size + 1 := by simp
  have s2 : ((w.alloc (.map #[] 0)).alloc (.map #[] 0)).heap.size = w.heap.size + 1 + 1 := by simp
  have s3 : (((w.alloc (.map #[] 0)).alloc (.map #[] 0)).alloc (.map #[] 0)).heap.size = w.heap.size + 1 + 1 + 1 := by simp
  have h2 : ∀ l, ScZ _ _ 0 l := fun l => scZ_made (w.alloc (.map #[] 0)) l
  have h3 : BnM (((w.alloc (.map #[] 0)).alloc (.map #[] 0)).alloc (.map #[] 0)) ((w.alloc (.map #[] 0)).alloc (.map #[] 0)).heap.size 0 (fun _ => 0) := ⟨0, _, mapG_made _ _, fun s => ⟨rfl, by simp, by simp⟩⟩
  have h4 := bx_new (((w.alloc (.map #[] 0)).alloc (.map #[] 0)).alloc (.map #[] 0)) #[.map (some L), .map (some w.heap.size), .map (some (w.heap.size + 1)), .map (some (w.heap.size + 1 + 1))] T
  rw [s1] at h2
  rw [s2] at h3
  rw [s3] at h4
  have f2 := Fr.of_below b2 fun _ => False
  have f3 := Fr.of_below b3 fun _ => False
  have f4 := Fr.of_below b4 fun _ => False
  refine ⟨below_step (below_step (below_step b1 b1.size b2) (by omega) b3) (by omega) b4, fun l => (((scZ_made w l).fr f2 id).fr f3 id).fr f4 id, fun l => ((h2 l).fr f3 id).fr f4 id, h3.below b4, h4, by simp⟩

end Go.Proofs.YtcoeakdpcigogaaDoor

namespace Go.Proofs.YtcoeakdpcigogaaDoor
open Go.ChangeShapes Go.WideShapes Go.ChangeAt Go.RowKit Go.Sort Go.Maps

set_option maxRecDepth 100000 in
set_option maxHeartbeats 8000000 in
theorem vfun_any {W0 w : World} (hbw : Below W0.heap.size W0 w) {L : Nat} {lib : ByteArray → Option Af} (hlm : LbM W0 w L lib) (hlib : ∀ s f, lib s = some f → f.params.length ≤ 1000) (f : Af) (cs : List Value) (hc : AfC W0 (fun _ => False) cs f) (hfit : AfFit f) :
    Calls Tryd.prog 32 #[.map (some L), .agg cs.toArray] w fun e w' => e = .returned (.bool (fnB lib f)) ∧ Below w.heap.size w w' := by
  obtain ⟨Ap, cp, Aτ, cτ, Ab, cb, rfl, hps, hts, hbs⟩ := hc
  have HDA := Lib.hid (And.intro hps.1 (And.intro hts.1 hbs))
  have HF := Lib.hid hfit
  have HLIB := Lib.hid hlib
  have hpl := hfit.pl
  have htl := hfit.tl
  have hbl0 := hfit.bl
  have hbl1 := bszL_len f.body
  have hbx := below_box w (Obj.cells #[.string f.name, .slice Ap f.params.length cp, .bool f.list, .slice Aτ f.temps.length cτ, .slice Ab f.body.length cb, .string f.result] 39)
  have rbx := bx_new w #[.string f.name, .slice Ap f.params.length cp, .bool f.list, .slice Aτ f.temps.length cτ, .slice Ab f.body.length cb, .string f.result] 39
  have HBX := Lib.hid hbx
  have HRX := Lib.hid rbx
  have HBW := Lib.hid (below_step hbw hbw.size hbx)
  have HLM := Lib.hid (show LbM W0 _ L lib from hlm.fr (Fr.of_below hbx fun _ => False) id)
  have HLL := Lib.hid hlm.lt
  have HSW := Lib.hid (show (w.alloc (Obj.cells #[.string f.name, .slice Ap f.params.length cp, .bool f.list, .slice Aτ f.temps.length cτ, .slice Ab f.body.length cb, .string f.result] 39)).heap.size = w.heap.size + 1 by simp)
  have HBS := Lib.hid hbw.size
  have HEQ := Lib.hid (fnB.eq_def lib f)
  clear hps hts hbs hfit hlib hbx rbx hbw hlm
  go_enter Tryd.func32, Tryd.ntmps32
  go_upto_region 1 with fail
  generalize w.alloc _ = W at HBX HRX HBW HLM HSW ⊢
  obtain ⟨⟨a0, a1, a2, a3, a4, a5⟩, _⟩ := HRX.out.six'
  have hlb := HRX.out.lt
  by_cases h8 : 8 < f.params.length
  · have HE := Lib.hid (HEQ.out.trans (if_pos h8))
    go_wp2_with fail
    go_ret
    exact ⟨ret_bool HE.out.symm, HBX.out⟩
  have HEQ2 := Lib.hid (HEQ.out.trans (if_neg h8))
  have HM4 := Lib.hid (four_made W L 125)
  have hmm := @run_makeMap Tryd.prog
  clear HEQ
  go_upto_region 4 with fail
  generalize World.alloc _ _ = W3 at HM4 ⊢
  have HB43 := Lib.hid HM4.out.1
  generalize hS : W.heap.size + 1 = S at HM4 ⊢
  generalize hB : S + 1 = B at HM4 ⊢
  generalize hV : B + 1 = V at HM4 ⊢
  generalize hT : W.heap.size = T at HM4 hS ⊢
  have HN := Lib.hid (And.intro hS (And.intro hB (And.intro hV hT)))
  have HLMr := Lib.hid (show LbM W0 W3 L lib from HLM.out.fr (Fr.of_below HB43.out fun _ => False) id)
  have HRX3 := Lib.hid (HRX.out.below HB43.out)
  have HBW3 := Lib.hid (below_step HBW.out HBW.out.size HB43.out)
  have HB3 := Lib.hid (below_step HBX.out HBX.out.size HB43.out)
  have HLT := Lib.hid (show W0.heap.size < T ∧ L < T ∧ w.heap.size < T by have := HBS.out; have := HSW.out; have := HLL.out; omega)
  clear hS hB hV hT hmm a0 a1 a2 a3 a4 a5 hlb HRX HLM
  obtain ⟨⟨a0, a1, a2, a3, a4, a5⟩, _⟩ := HRX3.out.six'
  have hlb := HRX3.out.lt
  go_wp2_with fail
  clear a0 a1 a2 a3 a4 a5 hlb
  go_loopw [30] (fun i wr => ∃ k : Nat, k ≤ f.params.length ∧ i = .int .i64 k ∧ Hid (Fr W3 wr (fun j => j = S)) ∧ Hid (ScZ wr S k f.params)) (fun i _ => f.params.length - (intOf i).toNat)
  case atStart => exact ⟨0, by omega, rfl, Lib.hid (Fr.refl _ _), Lib.hid (HM4.out.2.2.1 _)⟩
  case round =>
    obtain ⟨k, hk, rfl, hfr, hsc⟩ := hrel
    have hB0 : Below W0.heap.size W0 wr := hfr.out.toBelow HBW3.out HBW3.out.size (fun j e => by have := HN.out; have := HLT.out; have e' : j = S := e; omega)
    have HVX := Lib.hid (HM4.out.2.2.2.2.1.fr hfr.out (fun e => by have := HN.out; have e' : V = S := e; omega))
    by_cases hin : k < f.params.length
    · obtain ⟨b1, o1, rfl, c0, c1⟩ := (HDA.out.1.mono hB0).at_ hin
      have hbx := below_box wr (Obj.cells #[.string f.params[k].name, .bool f.params[k].list] 65)
      have HPX := Lib.hid (bx_new wr #[.string f.params[k].name, .bool f.params[k].list] 65)
      obtain ⟨w5, hput, hsc5, hfr5⟩ := ScZ.put (hsc.out.fr (Fr.of_below hbx fun _ => False) id) hin (by omega) (HF.out.pn _ (List.getElem_mem hin))
      have HF5 := Lib.hid (hfr.out.trans ((Fr.of_below hbx (fun j => j = S)).trans hfr5 fun _ _ e => e) fun _ _ e => e)
      have HS5 := Lib.hid hsc5
      have HVX2 := Lib.hid (HVX.out.below hbx)
      have hlt := block_lt_of_cell c0
      have rk1 : (0 : Int) ≤ k := by omega
      clear hfr hsc hsc5 hfr5 hB0 hbx
      generalize f.params[k] = p at *
      go_upto_region 7 with fail
      clear c0 c1 hlt
      generalize wr.alloc _ = W4 at HPX HVX2 hput ⊢
      obtain ⟨y0, y1, _⟩ := HPX.out.two
      have hlt := HPX.out.lt
      obtain ⟨x0, x1, x2, x3, _⟩ := HVX2.out.four
      have hlv := HVX2.out.lt
      go_wp2_with fail
      exact ⟨⟨k + 1, by omega, by go_num, HF5, HS5⟩, by simp [intOf]; omega⟩
    · obtain rfl : k = f.params.length := by omega
      obtain ⟨wo, rfl⟩ : ∃ y, y = wr := ⟨_, rfl⟩
      have HFo := Lib.hid hfr.out
      have HSo := Lib.hid hsc.out
      have HB0o := Lib.hid hB0
      have HTo := Lib.hid (fun l => (HM4.out.2.1 l).fr hfr.out (fun e => by have := HN.out; have e' : T = S := e; omega))
      have HBo := Lib.hid (HM4.out.2.2.2.1.fr hfr.out (fun e => by have := HN.out; have e' : B = S := e; omega))
      have HLo := Lib.hid (HLMr.out.fr hfr.out (fun e => by have := HN.out; have := HLT.out; have e' : L = S := e; omega))
      have HXo := Lib.hid (HRX3.out.fr hfr.out (fun e => by have := HN.out; have := HLT.out; have e' : w.heap.size = S := e; omega))
      have HBw := Lib.hid (hfr.out.toBelow HB3.out HB3.out.size (fun j e => by have := HN.out; have := HLT.out; have e' : j = S := e; omega))
      clear hfr hsc hB0 HLMr HRX3
      obtain ⟨⟨a0, a1, a2, a3, a4, a5⟩, _⟩ := HXo.out.six'
      have hlb := HXo.out.lt
      go_wp2_with fail
      clear a0 a1 a2 a3 a4 a5 hlb
      go_loopw [44] (fun i wr => ∃ k : Nat, k ≤ f.temps.length ∧ i = .int .i64 k ∧ Hid (Fr wo wr (fun j => j = T)) ∧ Hid (ScZ wr T k f.temps) ∧ Hid (∀ p ∈ f.temps.take k, (scP f.params p.name).isSome = false)) (fun i _ => f.temps.length - (intOf i).toNat)
      case atStart => exact ⟨0, by omega, rfl, Lib.hid (Fr.refl _ _), Lib.hid (HTo.out _), Lib.hid (fun p hp => by rw [List.take_zero] at hp; cases hp)⟩
      case round =>
        obtain ⟨k, hk, rfl, hfr, hsc, hno⟩ := hrel
        have hB0 : Below W0.heap.size W0 wr := hfr.out.toBelow HB0o.out HB0o.out.size (fun j e => by have := HN.out; have := HLT.out; have e' : j = T := e; omega)
        have HBwr := Lib.hid (hfr.out.toBelow HBw.out HBw.out.size (fun j e => by have := HN.out; have := HLT.out; have e' : j = T := e; omega))
        have HVXr := Lib.hid (HVX.out.fr hfr.out (fun e => by have := HN.out; have e' : V = T := e; omega))
        have HSr := Lib.hid (HSo.out.fr hfr.out (fun e => by have := HN.out; have e' : S = T := e; omega))
        by_cases hin : k < f.temps.length
        · obtain ⟨b1, o1, rfl, c0, c1⟩ := (HDA.out.2.1.mono hB0).at_ hin
          have hbx := below_box wr (Obj.cells #[.string f.temps[k].name, .bool f.temps[k].list] 65)
          have HPX := Lib.hid (bx_new wr #[.string f.temps[k].name, .bool f.temps[k].list] 65)
          obtain ⟨w5, hput, hsc5, hfr5⟩ := ScZ.put (hsc.out.fr (Fr.of_below hbx fun _ => False) id) hin (by omega) (HF.out.tn _ (List.getElem_mem hin))
          have HF5 := Lib.hid (hfr.out.trans ((Fr.of_below hbx (fun j => j = T)).trans hfr5 fun _ _ e => e) fun _ _ e => e)
          have HS5 := Lib.hid hsc5
          have HVX2 := Lib.hid (HVXr.out.below hbx)
          have k1 := (HSr.out.fr (Fr.of_below hbx fun _ => False) id).sc.look f.temps[k].name (HF.out.tn _ (List.getElem_mem hin))
          rw [List.take_length] at k1
          have HBE := Lib.hid (below_step HBwr.out HBwr.out.size hbx)
          have HFAL := Lib.hid (fun (h : (scP f.params f.temps[k].name).isSome = true) => HEQ2.out.trans (if_pos (List.any_eq_true.2 ⟨_, List.getElem_mem hin, h⟩)))
          have HNO := Lib.hid (fun (h : (scP f.params f.temps[k].name).isSome = false) => show ∀ p ∈ f.temps.take (k + 1), (scP f.params p.name).isSome = false from fun p hp => by
            rw [List.take_succ_eq_append_getElem hin] at hp
            rcases List.mem_append.1 hp with e | e
            · exact hno.out p e
            · simp at e; rw [e]; exact h)
          have hlt := block_lt_of_cell c0
          have rk1 : (0 : Int) ≤ k := by omega
          clear hfr hsc hsc5 hfr5 hB0 hbx hno
          generalize f.temps[k] = p at *
          go_upto_region 12 with fail
          clear c0 c1 hlt
          generalize wr.alloc _ = W4 at HPX HVX2 hput k1 HBE ⊢
          obtain ⟨y0, y1, _⟩ := HPX.out.two
          have hlt := HPX.out.lt
          obtain ⟨x0, x1, x2, x3, _⟩ := HVX2.out.four
          have hlv := HVX2.out.lt
          cases hfd : (scP f.params p.name).isSome with
          | true =>
            rw [hfd] at k1
            have HE := Lib.hid (HFAL.out hfd)
            clear hfd
            go_wp2_with fail
            go_ret
            exact ⟨ret_bool HE.out.symm, HBE.out⟩
          | false =>
            rw [hfd] at k1
            have HN2 := Lib.hid (HNO.out hfd)
            clear hfd
            go_wp2_with fail
            exact ⟨⟨k + 1, by omega, by go_num, HF5, HS5, HN2⟩, by simp [intOf]; omega⟩
        · obtain rfl : k = f.temps.length := by omega
          rw [List.take_length] at hno
          have HEQ3 := Lib.hid (HEQ2.out.trans (if_neg (fun h => by
            obtain ⟨p, hp, hq⟩ := List.any_eq_true.1 h
            rw [hno.out p hp] at hq; cases hq)))
          obtain ⟨wb, rfl⟩ : ∃ y, y = wr := ⟨_, rfl⟩
          have HTb := Lib.hid hsc.out
          have HBb := Lib.hid (HBo.out.fr hfr.out (fun e => by have := HN.out; have e' : B = T := e; omega))
          have HLb := Lib.hid (HLo.out.fr hfr.out (fun e => by have := HN.out; have := HLT.out; have e' : L = T := e; omega))
          have HXb := Lib.hid (HXo.out.fr hfr.out (fun e => by have := HN.out; have := HLT.out; have e' : w.heap.size = T := e; omega))
          have HB0b := Lib.hid hB0
          obtain ⟨sz1, m1, hs1, hq1⟩ := HSr.out
          obtain ⟨sz2, m2, hs2, hq2⟩ := HTb.out
          rw [List.take_length] at hq1 hq2
          have l1 := fun ty => m1.len Tryd.underlying122 ty
          have l2 := fun ty => m2.len Tryd.underlying122 ty
          clear hfr hsc hB0 hno HFo HSo HBo HLo HXo HEQ2 HTo m1 m2
          obtain ⟨⟨a0, a1, a2, a3, a4, a5⟩, _⟩ := HXb.out.six'
          have hlb := HXb.out.lt
          obtain ⟨x0, x1, x2, x3, _⟩ := HVXr.out.four
          have hlv := HVXr.out.lt
          by_cases hnd : (f.params.map Pm.name).Nodup ∧ (f.temps.map Pm.name).Nodup
          rotate_left
          · have HE := Lib.hid (HEQ3.out.trans (if_pos (by
              by_cases h1 : (f.params.map Pm.name).Nodup
              · exact .inr fun h2 => hnd ⟨h1, h2⟩
              · exact .inl h1)))
            have hlt12 : sz1 < f.params.length ∨ ¬ (sz1 < f.params.length) ∧ sz2 < f.temps.length := by
              by_cases h1 : (f.params.map Pm.name).Nodup
              · have e1 := hq1.2 h1
                have : sz2 ≠ f.temps.length := fun e => hnd ⟨h1, hq2.1 e⟩
                exact .inr ⟨by omega, by omega⟩
              · have : sz1 ≠ f.params.length := fun e => h1 (hq1.1 e)
                exact .inl (by omega)
            clear hnd hq1 hq2
            rcases hlt12 with h1 | ⟨h1, h2⟩
            · go_wp2_with fail
              go_ret
              exact ⟨ret_bool HE.out.symm, HBwr.out⟩
            · go_wp2_with fail
              go_ret
              exact ⟨ret_bool HE.out.symm, HBwr.out⟩
          obtain rfl : sz1 = f.params.length := hq1.2 hnd.1
          obtain rfl : sz2 = f.temps.length := hq2.2 hnd.2
          have HEQ4 := Lib.hid (HEQ3.out.trans (if_neg (fun h => h.elim (fun h => h hnd.1) (fun h => h hnd.2))))
          have HCK := Lib.hid (show Ck W0 wb V L T S B lib (scP f.temps) f.params.length 0 (scP f.params) (fun _ => 0) from ⟨HB0b.out, HVXr.out, HLb.out, ⟨_, by have := HTb.out.sc; rw [List.take_length] at this; exact this⟩, by have := HSr.out.sc; rw [List.take_length] at this; exact this, HBb.out, by have := HN.out; have := HLT.out; omega, by have := HN.out; have := HLT.out; omega, by have := HN.out; have := HLT.out; omega⟩)
          clear hnd hq1 hq2 HEQ3 hs1 hs2
          go_wp2_with fail
          clear x0 x1 x2 x3 hlv a0 a1 a2 a3 a4 a5 hlb l1 l2
          go_loopw [83] (fun i wr => ∃ (k nS' nB' : Nat) (sck : Sc) (bdk : Bn), k ≤ f.body.length ∧ i = .int .i64 k ∧ nS' ≤ f.params.length + bszL (f.body.take k) ∧ nB' ≤ bszL (f.body.take k) ∧ Hid (Ck W0 wr V L T S B lib (scP f.temps) nS' nB' sck bdk) ∧ Hid (Fr wb wr (SB S B)) ∧ Hid (bodyB lib (scP f.temps) f.body (scP f.params) (fun _ => 0) = bodyB lib (scP f.temps) (f.body.drop k) sck bdk)) (fun i _ => f.body.length - (intOf i).toNat)
          case atStart => exact ⟨0, f.params.length, 0, scP f.params, fun _ => 0, by omega, rfl, by omega, by omega, Lib.hid HCK.out, Lib.hid (Fr.refl _ _), Lib.hid (by rw [List.drop_zero])⟩
          case round =>
            obtain ⟨k, nS', nB', sck, bdk, hk, rfl, hnS, hnB, hck, hfr, hE⟩ := hrel
            have HFw := Lib.hid (show Below w.heap.size w wr from hfr.out.toBelow HBwr.out HBwr.out.size (fun j e => by have := HN.out; have := HLT.out; rcases e with e | e <;> omega))
            by_cases hin : k < f.body.length
            · have HST := Lib.hid (hE.out.trans (bodyB_step hin))
              have HTK := Lib.hid (bszL_step hin)
              have hbt := bszL_take f.body (k + 1)
              rw [HTK.out] at hbt
              have HFT := Lib.hid (HF.out.bd _ (List.getElem_mem hin))
              have HBC := Lib.hid (vbind_any (W0 := W0) (V := V) (L := L) (T := T) (S := S) (B := B) (lib := lib) (tp := scP f.temps) HLIB.out f.body[k])
              obtain ⟨b, o, rfl, hbo⟩ := HDA.out.2.2 k _ (List.getElem?_eq_getElem hin)
              generalize f.body[k] = t at *
              have hbt2 := bszT_eq t
              obtain ⟨cs, hcs, _, hcell⟩ := hbo.open_
              have HCS := Lib.hid hcs
              obtain ⟨Aa, ca, At, ct, Ae, ce, rfl, _⟩ := hcs
              have hbw := hck.out.bw
              have c0 := below_cell hbw (hcell 0 _ rfl)
              have c1 := below_cell hbw (hcell 1 _ rfl)
              have c2 := below_cell hbw (hcell 2 _ rfl)
              have c3 := below_cell hbw (hcell 3 _ rfl)
              have c4 := below_cell hbw (hcell 4 _ rfl)
              have c5 := below_cell hbw (hcell 5 _ rfl)
              have c6 := below_cell hbw (hcell 6 _ rfl)
              have c7 := below_cell hbw (hcell 7 _ rfl)
              rw [Nat.add_zero] at c0
              have hlb := block_lt_of_cell c0
              have HBXt := Lib.hid (below_box wr (Obj.cells #[.string t.to, .bool t.list, .int .u8 t.op, .int .i64 t.num, .string t.name, .slice Aa t.args.length ca, .slice At t.thn.length ct, .slice Ae t.els.length ce] 67))
              have HRXt := Lib.hid (bx_new wr #[.string t.to, .bool t.list, .int .u8 t.op, .int .i64 t.num, .string t.name, .slice Aa t.args.length ca, .slice At t.thn.length ct, .slice Ae t.els.length ce] 67)
              have HCK1 := Lib.hid (hck.out.below HBXt.out)
              have HCKL := Lib.hid (And.intro hck.out.sm.lt hck.out.bm.lt)
              have HCB := Lib.hid (HBC.out _ _ _ _ _ _ HCK1.out HCS.out HFT.out (by omega) (by omega))
              have HFWt := Lib.hid (below_step HFw.out HFw.out.size HBXt.out)
              have rk1 : (0 : Int) ≤ k := by omega
              clear hck hE hbo hcell hbw HBC
              go_upto_region 22 with fail
              clear c0 c1 c2 c3 c4 c5 c6 c7 hlb
              generalize wr.alloc _ = W4 at HBXt HRXt HCK1 HCB HFWt ⊢
              obtain ⟨⟨a0, a1, a2, a3, a4, a5, a6, a7⟩, _⟩ := HRXt.out.eight
              have hlb := HRXt.out.lt
              go_wp2_with fail
              refine HCB.out.mono ?_
              clear HCB a0 a1 a2 a3 a4 a5 a6 a7 hlb
              rintro e w5 ⟨rfl, hf5, hr5⟩
              have HF5 := Lib.hid (hfr.out.trans ((Fr.of_below HBXt.out (SB S B)).trans hf5 fun _ _ e => e) fun _ _ e => e)
              have HB5 := Lib.hid (show Below w.heap.size w w5 from hf5.toBelow HFWt.out HFWt.out.size (fun j e => by have := HN.out; have := HLT.out; rcases e with e | e <;> omega))
              cases hb : bndB lib (scP f.temps) t sck bdk with
              | none =>
                rw [hb] at HST
                have HE := Lib.hid (show fnB lib f = false by rw [HEQ4.out, HST.out])
                clear hf5 hr5 hb
                go_wp2_with fail
                go_ret
                exact ⟨ret_bool HE.out.symm, HB5.out⟩
              | some bd1 =>
                obtain ⟨nS2, nB2, hn1, hn2, hck5⟩ := hr5 bd1 hb
                rw [hb] at HST
                have HST3 := Lib.hid (HST.out)
                dsimp only at HST3
                have HCK5 := Lib.hid hck5
                have HRX5 := Lib.hid (HRXt.out.fr hf5 (fun e => by
                  have h1 := HCKL.out
                  rcases e with e | e <;> (have e' : wr.heap.size = _ := e; omega)))
                clear hf5 hr5 hb hck5 HST
                have k1 := HCK5.out.bm.look t.to HFT.out.facts.1
                obtain ⟨q1, q2⟩ := HCK5.out.bm.le t.to
                obtain ⟨w6, hput6, hbd6, hfr6⟩ := HCK5.out.bm.inc (by omega) t.to HFT.out.facts.1
                have HCK6 := Lib.hid (HCK5.out.bound hfr6 hbd6)
                have HRX6 := Lib.hid (HRX5.out.fr hfr6 (fun e => by have h1 := HCKL.out; have e' : wr.heap.size = B := e; omega))
                have HF56 := Lib.hid (HF5.out.trans (hfr6.mono (fun j _ e => .inr e)) fun _ _ e => e)
                obtain ⟨x0, x1, x2, x3, hlv⟩ := HCK5.out.cells
                obtain ⟨⟨a0, a1, a2, a3, a4, a5, a6, a7⟩, _⟩ := HRX5.out.eight
                have hlb := HRX5.out.lt
                clear hbd6 hfr6
                go_upto_region 25 with fail
                clear x0 x1 x2 x3 hlv a0 a1 a2 a3 a4 a5 a6 a7 hlb k1 hput6
                obtain ⟨w7, hput, hsc7, hfr7⟩ := HCK6.out.sm.put (by omega) t.to HFT.out.facts.1 t.list
                have HCK7 := Lib.hid (HCK6.out.scope hfr7 hsc7)
                have HF7 := Lib.hid (HF56.out.trans (hfr7.mono (fun j _ e => .inl e)) fun _ _ e => e)
                obtain ⟨x0, x1, x2, x3, hlv⟩ := HCK6.out.cells
                obtain ⟨⟨a0, a1, a2, a3, a4, a5, a6, a7⟩, _⟩ := HRX6.out.eight
                have hlb := HRX6.out.lt
                clear hsc7 hfr7
                go_wp2_with fail
                exact ⟨⟨k + 1, _, _, _, _, by omega, by go_num, by rw [HTK.out]; omega, by rw [HTK.out]; omega, HCK7, HF7, HST3⟩, by simp [intOf]; omega⟩
            · obtain rfl : k = f.body.length := by omega
              rw [List.drop_length, bodyB] at hE
              have HEQ5 := Lib.hid (show fnB lib f = if f.temps.all (fun p => decide (bdk p.name = 1)) = true then decide (sck f.result = some f.list) else false by rw [HEQ4.out, hE.out])
              obtain ⟨we, rfl⟩ : ∃ y, y = wr := ⟨_, rfl⟩
              have HCKe := Lib.hid hck.out
              have HXe := Lib.hid (HXb.out.fr hfr.out (fun e => by have := HN.out; have := HLT.out; rcases e with e | e <;> (have e' : w.heap.size = _ := e; omega)))
              clear hck hfr hE HEQ4 HXb HCK
              obtain ⟨⟨a0, a1, a2, a3, a4, a5⟩, _⟩ := HXe.out.six'
              have hlb := HXe.out.lt
              go_wp2_with fail
              clear a0 a1 a2 a3 a4 a5 hlb
              go_loopw [106] (fun i wr => ∃ k : Nat, k ≤ f.temps.length ∧ i = .int .i64 k ∧ Hid (Below we.heap.size we wr) ∧ Hid (∀ p ∈ f.temps.take k, bdk p.name = 1)) (fun i _ => f.temps.length - (intOf i).toNat)
              case atStart => exact ⟨0, by omega, rfl, Lib.hid (Below.refl _ _), Lib.hid (fun p hp => by rw [List.take_zero] at hp; cases hp)⟩
              case round =>
                obtain ⟨k, hk, rfl, hbe, hno⟩ := hrel
                have HCKr := Lib.hid (HCKe.out.below hbe.out)
                have HBr := Lib.hid (below_step HFw.out HFw.out.size hbe.out)
                by_cases hin : k < f.temps.length
                · obtain ⟨b1, o1, rfl, c0, c1⟩ := (HDA.out.2.1.mono HCKr.out.bw).at_ hin
                  have hbx := below_box wr (Obj.cells #[.string f.temps[k].name, .bool f.temps[k].list] 65)
                  have HPX := Lib.hid (bx_new wr #[.string f.temps[k].name, .bool f.temps[k].list] 65)
                  have k1 := (HCKr.out.below hbx).bm.look f.temps[k].name (HF.out.tn _ (List.getElem_mem hin))
                  have HCKx := Lib.hid (HCKr.out.below hbx)
                  have HBx := Lib.hid (below_step HBr.out HBr.out.size hbx)
                  have HBe := Lib.hid (below_step hbe.out hbe.out.size hbx)
                  have HFAL := Lib.hid (fun (h : bdk f.temps[k].name ≠ 1) => show fnB lib f = false from HEQ5.out.trans (if_neg (fun h2 => by
                    have h3 := List.all_eq_true.1 h2 _ (List.getElem_mem hin)
                    exact h (of_decide_eq_true h3))))
                  have HNO := Lib.hid (fun (h : bdk f.temps[k].name = 1) => show ∀ p ∈ f.temps.take (k + 1), bdk p.name = 1 from fun p hp => by
                    rw [List.take_succ_eq_append_getElem hin] at hp
                    rcases List.mem_append.1 hp with e | e
                    · exact hno.out p e
                    · simp at e; rw [e]; exact h)
                  have hlt := block_lt_of_cell c0
                  have rk1 : (0 : Int) ≤ k := by omega
                  clear hbe hno hbx
                  generalize f.temps[k] = p at *
                  go_upto_region 30 with fail
                  clear c0 c1 hlt
                  generalize wr.alloc _ = W4 at HPX HCKx HBx HBe k1 ⊢
                  obtain ⟨y0, y1, _⟩ := HPX.out.two
                  have hlt := HPX.out.lt
                  obtain ⟨x0, x1, x2, x3, hlv⟩ := HCKx.out.cells
                  by_cases h1 : bdk p.name = 1
                  · have h1' : (bdk p.name != 1) = false := by rw [h1]; rfl
                    have HN2 := Lib.hid (HNO.out h1)
                    clear h1
                    go_wp2_with fail
                    exact ⟨⟨k + 1, by omega, by go_num, HBe, HN2⟩, by simp [intOf]; omega⟩
                  · have h1' : (bdk p.name != 1) = true := bne_iff_ne.2 h1
                    have HE := Lib.hid (HFAL.out h1)
                    clear h1
                    go_wp2_with fail
                    go_ret
                    exact ⟨ret_bool HE.out.symm, HBx.out⟩
                · obtain rfl : k = f.temps.length := by omega
                  rw [List.take_length] at hno
                  have HEQ6 := Lib.hid (HEQ5.out.trans (if_pos (List.all_eq_true.2 fun p hp => decide_eq_true (hno.out p hp))))
                  have HXr := Lib.hid (HXe.out.below hbe.out)
                  have k1 := HCKr.out.sm.look f.result HF.out.rs
                  obtain ⟨x0, x1, x2, x3, hlv⟩ := HCKr.out.cells
                  obtain ⟨⟨a0, a1, a2, a3, a4, a5⟩, _⟩ := HXr.out.six'
                  have hlb := HXr.out.lt
                  clear hbe hno HEQ5
                  cases hs : sck f.result with
                  | none =>
                    rw [hs] at k1
                    dsimp only [Option.isSome, Option.getD] at k1
                    have HE := Lib.hid (show fnB lib f = false by rw [HEQ6.out, hs]; simp)
                    clear hs
                    go_wp2_with fail
                    go_ret
                    exact ⟨ret_bool HE.out.symm, HBr.out⟩
                  | some v =>
                    rw [hs] at k1
                    dsimp only [Option.isSome, Option.getD] at k1
                    have HE := Lib.hid (show fnB lib f = (v == f.list) by rw [HEQ6.out, hs, Bool.eq_iff_iff]; simp)
                    clear hs
                    go_wp2_with fail
                    go_ret
                    exact ⟨ret_bool HE.out.symm, HBr.out⟩

end Go.Proofs.YtcoeakdpcigogaaDoor

namespace Go.Proofs.YtcoeakdpcigogaaDoor
open Go.ChangeShapes Go.WideShapes Go.ChangeAt Go.RowKit Go.Sort Go.Maps

theorem byN_step {l : List Af} {k : Nat} (h : k < l.length) : byN (l.take (k + 1)) = fun t => if t = l[k].name then some l[k] else byN (l.take k) t := by
  unfold byN
  rw [List.take_succ_eq_append_getElem h, List.foldl_append]; rfl
theorem byN_mem (l : List Af) (q : ByteArray) : ((byN l q).isSome = true ↔ q ∈ l.map Af.name) ∧ ∀ f, byN l q = some f → f ∈ l := by
  unfold byN
  have key : ∀ (l : List Af) (e : ByteArray → Option Af), ((l.foldl (fun e f => fun t => if t = f.name then some f else e t) e q).isSome = true ↔ (q ∈ l.map Af.name ∨ (e q).isSome = true)) ∧ ∀ f, l.foldl (fun e f => fun t => if t = f.name then some f else e t) e q = some f → f ∈ l ∨ e q = some f := by
    intro l
    induction l with
    | nil => intro e; exact ⟨by simp, fun f h => .inr h⟩
    | cons p r ih =>
      intro e
      rw [List.foldl_cons]
      obtain ⟨h1, h2⟩ := ih (fun t => if t = p.name then some p else e t)
      constructor
      · rw [h1, List.map_cons, List.mem_cons]
        by_cases h : q = p.name
        · simp [h]
        · simp [h]
      · intro f hf
        rcases h2 f hf with h3 | h3
        · exact .inl (List.mem_cons_of_mem _ h3)
        · by_cases h : q = p.name
          · rw [if_pos h] at h3; cases h3; exact .inl (List.mem_cons_self ..)
          · rw [if_neg h] at h3; exact .inr h3
  obtain ⟨h1, h2⟩ := key l fun _ => none
  exact ⟨by rw [h1]; simp, fun f hf => by rcases h2 f hf with h | h; exact h; cases h⟩
/-- The library by names, with its size. -/
def LbZ (W0 w : World) (b k : Nat) (l : List Af) : Prop := ∃ sz env, MapG zAf w b k sz env ∧ (∀ s, (byN (l.take k) s = none ∧ env s = none) ∨ ∃ f cs, byN (l.take k) s = some f ∧ env s = some (.agg cs.toArray) ∧ AfC W0 (fun _ => False) cs f) ∧ sz ≤ k ∧ (sz = k ↔ ((l.take k).map Af.name).Nodup)
variable {W0 w w' : World} {b k : Nat} {l : List Af}
theorem LbZ.fr (h : LbZ W0 w b k l) {m : Nat → Prop} (hf : Fr w w' m) (hn : ¬ m b) : LbZ W0 w' b k l := by
  obtain ⟨sz, env, h1, h2⟩ := h; exact ⟨sz, env, h1.fr hf hn, h2⟩
theorem lbZ_made (W0 w : World) (l : List Af) : LbZ W0 (w.alloc (.map #[] 0)) w.heap.size 0 l := ⟨0, _, mapG_made _ w, fun s => .inl ⟨by rw [List.take_zero]; rfl, rfl⟩, Nat.le_refl _, by rw [List.take_zero]; simp⟩
theorem LbZ.put (h : LbZ W0 w b k l) (hk : k < l.length) (hn : k < 1000000000) (hs : l[k].name.size ≤ 9223372036854775807) {cs : List Value} (hc : AfC W0 (fun _ => False) cs l[k]) : ∃ w', (Instr.mapUpdate 82 (.map (some b)) (.string l[k].name) (.agg cs.toArray)).run Tryd.prog w = .ok () w' ∧ LbZ W0 w' b (k + 1) l ∧ Fr w w' (fun j => j = b) := by
  obtain ⟨sz, env, h1, hd, h2, h3⟩ := h
  obtain ⟨w', e1, e2, e3⟩ := mapG_put Tryd.underlying82 h1 (by unfold maxLen; omega) l[k].name hs (.agg cs.toArray)
  have hsome : (env l[k].name).isSome = true ↔ l[k].name ∈ (l.take k).map Af.name := by
    rw [← (byN_mem (l.take k) l[k].name).1]
    rcases hd l[k].name with ⟨q1, q2⟩ | ⟨f, cs', q1, q2, _⟩
    · rw [q1, q2]; simp
    · rw [q1, q2]; simp
  refine ⟨w', e1, ⟨_, _, e2, fun s => ?_, ?_, ?_⟩, Fr.of_turned e3⟩
  · rw [byN_step hk]
    unfold setG
    dsimp only
    by_cases e : s = l[k].name
    · rw [if_pos e, if_pos e]; exact .inr ⟨_, cs, rfl, rfl, hc⟩
    · rw [if_neg e, if_neg e]; exact hd s
  · split <;> omega
  · rw [List.take_succ_eq_append_getElem hk, List.map_append, List.map_cons, List.map_nil, nodup_snoc]
    by_cases hm : l[k].name ∈ (l.take k).map Af.name
    · rw [if_pos (hsome.2 hm)]
      constructor
      · intro e; omega
      · rintro ⟨_, e⟩; exact absurd hm e
    · rw [if_neg (fun e => hm (hsome.1 e))]
      constructor
      · intro e; exact ⟨h3.1 (by omega), hm⟩
      · rintro ⟨e, _⟩; have := h3.2 e; omega
theorem LbZ.lb (h : LbZ W0 w b l.length l) : LbM W0 w b (byN l) := by
  obtain ⟨sz, env, h1, hd, _⟩ := h
  rw [List.take_length] at hd
  exact ⟨_, sz, env, h1, hd⟩

set_option maxRecDepth 100000 in
set_option maxHeartbeats 8000000 in
theorem avalid_any (l : List Af) (A : Option Addr) (cap : Nat) (w : World) (hL : AfsAt w A l) (hfit : ∀ f ∈ l, AfFit f) (hnm : ∀ f ∈ l, f.name.size ≤ 9223372036854775807) (hln : l.length ≤ 9223372036854775807) :
    Calls Tryd.prog 16 #[.slice A l.length cap] w fun e w' => e = .returned (.bool (libB l)) ∧ Below w.heap.size w w' := by
  have HL := Lib.hid hL
  have HFIT := Lib.hid hfit
  have HNM := Lib.hid hnm
  have HEQ := Lib.hid (libB.eq_def l)
  clear hL hfit hnm
  by_cases h30 : 30 < l.length
  · have HE := Lib.hid (HEQ.out.trans (if_pos h30))
    go_enter Tryd.func16, Tryd.ntmps16
    go_wp2_with fail
    go_ret
    exact ⟨ret_bool HE.out.symm, Below.refl _ _⟩
  have HEQ2 := Lib.hid (HEQ.out.trans (if_neg h30))
  have HM := Lib.hid (lbZ_made w w l)
  have HB1 := Lib.hid (below_box w (.map #[] 0))
  have hmm := @run_makeMap Tryd.prog
  clear HEQ
  go_enter Tryd.func16, Tryd.ntmps16
  go_wp2_with fail
  clear hmm
  generalize w.alloc _ = W at HM HB1 ⊢
  go_loopw [14] (fun i wr => ∃ k : Nat, k ≤ l.length ∧ i = .int .i64 k ∧ Hid (Fr W wr (fun j => j = w.heap.size)) ∧ Hid (LbZ w wr w.heap.size k l)) (fun i _ => l.length - (intOf i).toNat)
  case atStart => exact ⟨0, by omega, rfl, Lib.hid (Fr.refl _ _), HM⟩
  case round =>
    obtain ⟨k, hk, rfl, hfr, hlz⟩ := hrel
    have HBr := Lib.hid (show Below w.heap.size w wr from hfr.out.toBelow HB1.out HB1.out.size (fun j e => by have e' : j = w.heap.size := e; omega))
    by_cases hin : k < l.length
    · obtain ⟨b, o, cs, rfl, hc, hcell⟩ := HL.out k _ (List.getElem?_eq_getElem hin)
      have hput := LbZ.put (w := wr.alloc (Obj.cells cs.toArray 39)) (hlz.out.fr (Fr.of_below (below_box wr _) fun _ => False) id) hin (by omega) (HNM.out _ (List.getElem_mem hin)) hc
      have hFA := hc
      obtain ⟨Ap, cp, Aτ, cτ, Ab, cb, rfl, _⟩ := hc
      have c0 := below_cell HBr.out (hcell 0 _ rfl)
      have c1 := below_cell HBr.out (hcell 1 _ rfl)
      have c2 := below_cell HBr.out (hcell 2 _ rfl)
      have c3 := below_cell HBr.out (hcell 3 _ rfl)
      have c4 := below_cell HBr.out (hcell 4 _ rfl)
      have c5 := below_cell HBr.out (hcell 5 _ rfl)
      rw [Nat.add_zero] at c0
      obtain ⟨w5, hput5, hlz5, hfr5⟩ := hput
      have hlt := block_lt_of_cell c0
      have HBX := Lib.hid (bx_new wr #[.string l[k].name, .slice Ap l[k].params.length cp, .bool l[k].list, .slice Aτ l[k].temps.length cτ, .slice Ab l[k].body.length cb, .string l[k].result] 39)
      have HF5 := Lib.hid (hfr.out.trans ((Fr.of_below (below_box wr (Obj.cells #[.string l[k].name, .slice Ap l[k].params.length cp, .bool l[k].list, .slice Aτ l[k].temps.length cτ, .slice Ab l[k].body.length cb, .string l[k].result] 39)) (fun j => j = w.heap.size)).trans hfr5 fun _ _ e => e) fun _ _ e => e)
      have HS5 := Lib.hid hlz5
      have rk1 : (0 : Int) ≤ k := by omega
      clear hfr hlz hcell hFA hlz5 hfr5
      generalize l[k] = f at *
      go_upto_region 7 with fail
      clear c0 c1 c2 c3 c4 c5 hlt
      generalize wr.alloc _ = W4 at HBX hput5 ⊢
      obtain ⟨⟨a0, a1, a2, a3, a4, a5⟩, _⟩ := HBX.out.six'
      have hlb := HBX.out.lt
      go_wp2_with fail
      exact ⟨⟨k + 1, by omega, by go_num, HF5, HS5⟩, by simp [intOf]; omega⟩
    · obtain rfl : k = l.length := by omega
      have HLM := Lib.hid hlz.out.lb
      obtain ⟨sz, env, m1, _, hs1, hq1⟩ := hlz.out
      rw [List.take_length] at hq1
      have l1 := fun ty => m1.len Tryd.underlying82 ty
      obtain ⟨we, rfl⟩ : ∃ y, y = wr := ⟨_, rfl⟩
      clear hfr hlz m1
      by_cases hnd : (l.map Af.name).Nodup
      rotate_left
      · have HE := Lib.hid (HEQ2.out.trans (if_pos hnd))
        have : sz ≠ l.length := fun e => hnd (hq1.1 e)
        have hlt : sz < l.length := by omega
        clear hnd hq1 this
        go_wp2_with fail
        go_ret
        exact ⟨ret_bool HE.out.symm, HBr.out⟩
      have HEQ3 := Lib.hid (HEQ2.out.trans (if_neg (fun h => h hnd)))
      obtain rfl : sz = l.length := hq1.2 hnd
      clear hnd hq1 hs1 HEQ2
      go_wp2_with fail
      clear l1
      go_loopw [30] (fun i wr => ∃ k : Nat, k ≤ l.length ∧ i = .int .i64 k ∧ Hid (Below we.heap.size we wr) ∧ Hid (∀ f ∈ l.take k, fnB (byN l) f = true)) (fun i _ => l.length - (intOf i).toNat)
      case atStart => exact ⟨0, by omega, rfl, Lib.hid (Below.refl _ _), Lib.hid (fun p hp => by rw [List.take_zero] at hp; cases hp)⟩
      case round =>
        obtain ⟨k, hk, rfl, hbe, hall⟩ := hrel
        have HB2 := Lib.hid (below_step HBr.out HBr.out.size hbe.out)
        by_cases hin : k < l.length
        · obtain ⟨b, o, cs, rfl, hc, hcell⟩ := HL.out k _ (List.getElem?_eq_getElem hin)
          have HBX := Lib.hid (below_box wr (Obj.cells cs.toArray 39))
          have HVF := Lib.hid (vfun_any (below_step HB2.out HB2.out.size HBX.out) (HLM.out.fr (Fr.of_below (below_step hbe.out hbe.out.size HBX.out) fun _ => False) id) (fun s f h => (HFIT.out f ((byN_mem l s).2 f h)).pl) l[k] cs hc (HFIT.out _ (List.getElem_mem hin)))
          have HFAL := Lib.hid (fun (h : fnB (byN l) l[k] = false) => show libB l = false from HEQ3.out.trans (by
            cases e : l.all (fnB (byN l)) with
            | false => rfl
            | true => rw [List.all_eq_true.1 e _ (List.getElem_mem hin)] at h; cases h))
          have HNO := Lib.hid (fun (h : fnB (byN l) l[k] = true) => show ∀ f ∈ l.take (k + 1), fnB (byN l) f = true from fun p hp => by
            rw [List.take_succ_eq_append_getElem hin] at hp
            rcases List.mem_append.1 hp with e | e
            · exact hall.out p e
            · simp at e; rw [e]; exact h)
          have HRX := Lib.hid (bx_new wr cs.toArray 39)
          obtain ⟨Ap, cp, Aτ, cτ, Ab, cb, rfl, _⟩ := hc
          have c0 := below_cell HB2.out (hcell 0 _ rfl)
          have c1 := below_cell HB2.out (hcell 1 _ rfl)
          have c2 := below_cell HB2.out (hcell 2 _ rfl)
          have c3 := below_cell HB2.out (hcell 3 _ rfl)
          have c4 := below_cell HB2.out (hcell 4 _ rfl)
          have c5 := below_cell HB2.out (hcell 5 _ rfl)
          rw [Nat.add_zero] at c0
          have hlt := block_lt_of_cell c0
          have rk1 : (0 : Int) ≤ k := by omega
          clear hall hcell
          generalize l[k] = f at *
          go_upto_region 14 with fail
          clear c0 c1 c2 c3 c4 c5 hlt
          generalize wr.alloc _ = W4 at HBX HRX HVF ⊢
          obtain ⟨⟨a0, a1, a2, a3, a4, a5⟩, _⟩ := Bx.six' HRX.out
          have hlb := HRX.out.lt
          go_wp2_with fail
          refine HVF.out.mono ?_
          clear HVF a0 a1 a2 a3 a4 a5 hlb
          rintro e w5 ⟨rfl, hb5⟩
          have HBE := Lib.hid (below_step (below_step hbe.out hbe.out.size HBX.out) (by have := hbe.out.size; have := HBX.out.size; omega) hb5)
          have HBW := Lib.hid (below_step (below_step HB2.out HB2.out.size HBX.out) (by have := HB2.out.size; have := HBX.out.size; omega) hb5)
          clear hb5 hbe
          cases hfn : fnB (byN l) f with
          | false =>
            have HE := Lib.hid (HFAL.out hfn)
            clear hfn
            go_wp2_with fail
            go_ret
            exact ⟨ret_bool HE.out.symm, HBW.out⟩
          | true =>
            have HN2 := Lib.hid (HNO.out hfn)
            clear hfn
            go_wp2_with fail
            exact ⟨⟨k + 1, by omega, by go_num, HBE, HN2⟩, by simp [intOf]; omega⟩
        · obtain rfl : k = l.length := by omega
          rw [List.take_length] at hall
          have HE := Lib.hid (show libB l = true from HEQ3.out.trans (List.all_eq_true.2 fun f hf => hall.out f hf))
          clear hall
          go_wp2_with fail
          go_ret
          exact ⟨ret_bool HE.out.symm, HB2.out⟩

end Go.Proofs.YtcoeakdpcigogaaDoor

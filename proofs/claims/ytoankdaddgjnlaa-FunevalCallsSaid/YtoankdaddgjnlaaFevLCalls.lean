/-
  The reference's Trace.
  Arguments cleaned first: the same code, an equal value (plain).
  The walk of the law FunevalCalls.
-/
import Derived.Test.YtoankdaddgjnlaaRevAll
import Derived.Test.YtoankdaddgjnlaaFunRVal
import Derived.Test.YtoankdaddgjnlaaFevStart
import Derived.Test.YtoankdaddgjnlaaFevL0
import Derived.Test.YtoankdaddgjnlaaRevMem
namespace Go.Proofs.Ytoankdaddgjnlaa
open Go.ChangeShapes Go.WideShapes Go.ChangeAt Go.RowKit Go.Sort Go.Maps

/-- What Trace comes to. -/
noncomputable def traceR (lib : List Fn1) (name : ByteArray) (args : List Vl) (F : Int) : OutT :=
  if (validR lib).2 ≠ 0 then .err 3
  else if findF lib name 0 < 0 then .err 21
  else match lib[(findF lib name 0).toNat]? with
    | none => .err 0
    | some fn => if args.length ≠ fn.params.length then .err 7 else if tyB args fn.params = false then .err 7 else enter lib (ev apR lib F.toNat) 0 (findF lib name 0) (args.map cln) F.toNat
def RetTr (o : OutT) (w : World) (e : Ending) (w' : World) : Prop :=
  Below w.heap.size w w' ∧ match o with
  | .err k => k ≠ 0 ∧ e = .returned (.tuple #[.agg #[.int .i64 0, .slice none 0 0, .bool false, .int .i64 0, .slice none 0 0, .slice none 0 0], .int .i64 k])
  | .ok t _ => ∃ (fi : Int) (Aa : Option Addr) (na ca : Nat) (A : Option Addr) (c : Nat) (Ac : Option Addr) (mc cc : Nat), e = .returned (.tuple #[.agg #[.int .i64 fi, .slice Aa na ca, .bool t.res.list, .int .i64 t.res.n, .slice A t.res.l.length c, .slice Ac mc cc], .int .i64 0]) ∧ IntsX w' (fun _ => False) A t.res.l ∧ t.res.l.length ≤ c ∧ t.res.l.length ≤ 1000000
theorem RetTr.err {w w' : World} (hb : Below w.heap.size w w') {n : Int} (hn : n ≠ 0) {o : OutT} (ho : o = .err n) : RetTr o w (.returned (.tuple #[.agg #[.int .i64 0, .slice none 0 0, .bool false, .int .i64 0, .slice none 0 0, .slice none 0 0], .int .i64 n])) w' := by
  rw [ho]; exact ⟨hb, hn, rfl⟩
/-- Where the first loop stands: the arguments that are cleaned. -/
structure TrR (w wr : World) (args : List Vl) (k : Nat) (u : Value) : Prop where
  hb : Below w.heap.size w wr
  x : Bx wr w.heap.size #[.int .i64 0, .slice none 0 0, .bool false, .int .i64 0, .slice none 0 0, .slice none 0 0]
  own : ∃ cs, wr.ownsRow (w.heap.size + 1) 28 3 u k cs ∧ RowG (ValC w (fun _ => False)) cs ((args.take k).map cln)
theorem TrR.push {w wr W w' : World} {args : List Vl} {k : Nat} {u v' : Value} {cs c : List Value} (h : TrR w wr args k u) (ho : wr.ownsRow (w.heap.size + 1) 28 3 u k cs) (hr : RowG (ValC w (fun _ => False)) cs ((args.take k).map cln)) (hk : k < args.length) (hc : ValC w (fun _ => False) c (cln args[k])) (hW : Below wr.heap.size wr W) (hg : W.grownBy w' u.ownBlock) (hown : w'.ownsRow (w.heap.size + 1) 28 3 v' (k + 1) (cs ++ c)) : TrR w w' args (k + 1) v' := by
  have hge := fun g hg => own_block_geB ho g hg
  have hbd := below_step h.hb h.hb.size hW
  refine ⟨hbd.grown hg hbd.size (fun k hk => by have := hge k hk; omega), (h.x.below hW).fr (Fr.of_grown hg) (fun e => by have := hge _ e.symm; omega), cs ++ c, hown, ?_⟩
  rw [List.take_succ_eq_append_getElem hk, List.map_append]
  exact hr.snoc hc
theorem TrR.step {w wr W : World} {args : List Vl} {k : Nat} {u : Value} (h : TrR w wr args k u) (hW : Below wr.heap.size wr W) : TrR w W args k u := by
  obtain ⟨cs, h1, h2⟩ := h.own
  exact ⟨below_step h.hb h.hb.size hW, h.x.below hW, cs, own_below h1 hW, h2⟩

set_option maxRecDepth 100000 in
set_option maxHeartbeats 2000000 in
theorem rtrace_any (lib : List Fn1) (A : Option Addr) (cap : Nat) (name : ByteArray) (args : List Vl) (Aa : Option Addr) (ca : Nat) (F : Int) (w : World) (hL : LibAt w A lib) (hF : LibFit lib) (hN : FewNodes lib) (hV : VlsX w (fun _ => False) Aa args) (hvl : ∀ v ∈ args, v.l.length ≤ 1000) (hal : args.length ≤ 1000) (hFu : F ≤ 900000) :
    Calls Try.prog 7 #[.slice A lib.length cap, .string name, .slice Aa args.length ca, .int .i64 F] w (RetTr (traceR lib name args F) w) := by
  have hl := hF.1
  have HS := Lib.hid (traceR.eq_def lib name args F)
  have HX0 := Lib.hid (bx_new w #[.int .i64 0, .slice none 0 0, .bool false, .int .i64 0, .slice none 0 0, .slice none 0 0] 34)
  have HB0 := Lib.hid (below_box w (Obj.cells #[.int .i64 0, .slice none 0 0, .bool false, .int .i64 0, .slice none 0 0, .slice none 0 0] 34))
  have HL := Lib.hid hL
  have HV := Lib.hid hV
  have HVL := Lib.hid hvl
  clear hL hV hvl
  go_enter Try.func7, Try.ntmps7
  go_upto_region 1 with fail
  generalize hWg : w.alloc _ = W at HX0 HB0 ⊢
  have hWs : W.heap.size = w.heap.size + 1 := by rw [← hWg]; simp
  clear hWg
  go_wp2_with fail
  refine (rvalid_any lib A cap W (HL.out.mono HB0.out) hF hN).mono ?_
  rintro e w3 ⟨rfl, hb3⟩
  have HB3 := Lib.hid (below_step HB0.out HB0.out.size hb3)
  have HX3 := Lib.hid (HX0.out.below hb3)
  have hs3 : w.heap.size + 1 ≤ w3.heap.size := by have := hb3.size; omega
  clear hb3 hWs HX0 HB0
  by_cases hv : (validR lib).2 = 0
  rotate_left
  · have hv' : ((validR lib).2 != 0) = true := by simpa using hv
    have HO := Lib.hid (HS.out.trans (if_pos hv))
    obtain ⟨⟨y0, y1, y2, y3, y4, y5⟩, x0, x1, x2, x3, x4, x5⟩ := HX3.out.six
    clear hv
    generalize (validR lib).2 = vv at *
    generalize (validR lib).1 = vw at *
    go_wp2_with fail
    have HF := Lib.hid (And.intro (HX3.out.set6 (.int .i64 0) (.slice none 0 0) (.bool false) (.int .i64 0) (.slice none 0 0) (.slice none 0 0)) (belowR6 HB3.out (Nat.le_refl w.heap.size) (.int .i64 0) (.slice none 0 0) (.bool false) (.int .i64 0) (.slice none 0 0) (.slice none 0 0)))
    generalize World.setCell _ _ _ = WF at HF ⊢
    obtain ⟨⟨g0, g1, g2, g3, g4, g5⟩, _⟩ := HF.out.1.six
    exact bodyPost_ret (v := .tuple #[.agg #[.int .i64 0, .slice none 0 0, .bool false, .int .i64 0, .slice none 0 0, .slice none 0 0], .int .i64 3]) (by simp [results, Try.results7, go_sem, g0, g1, g2, g3, g4, g5]) rfl (RetTr.err HF.out.2 (by decide) HO.out)
  have HX := Lib.hid (libX_of HL.out hF hv)
  have HS1 := Lib.hid (HS.out.trans (if_neg (fun e => e hv)))
  rw [hv]
  generalize (validR lib).1 = vw at *
  clear hv HS
  go_wp2_with fail
  refine (rfind_any lib A cap name w3 (HL.out.mono HB3.out) hl).mono ?_
  rintro e w4 ⟨rfl, rfl⟩
  by_cases hf : findF lib name 0 < 0
  · have HO := Lib.hid (HS1.out.trans (if_pos hf))
    obtain ⟨⟨y0, y1, y2, y3, y4, y5⟩, x0, x1, x2, x3, x4, x5⟩ := HX3.out.six
    generalize findF lib name 0 = fi at *
    go_wp2_with fail
    have HF := Lib.hid (And.intro (HX3.out.set6 (.int .i64 0) (.slice none 0 0) (.bool false) (.int .i64 0) (.slice none 0 0) (.slice none 0 0)) (belowR6 HB3.out (Nat.le_refl w.heap.size) (.int .i64 0) (.slice none 0 0) (.bool false) (.int .i64 0) (.slice none 0 0) (.slice none 0 0)))
    generalize World.setCell _ _ _ = WF at HF ⊢
    obtain ⟨⟨g0, g1, g2, g3, g4, g5⟩, _⟩ := HF.out.1.six
    exact bodyPost_ret (v := .tuple #[.agg #[.int .i64 0, .slice none 0 0, .bool false, .int .i64 0, .slice none 0 0, .slice none 0 0], .int .i64 21]) (by simp [results, Try.results7, go_sem, g0, g1, g2, g3, g4, g5]) rfl (RetTr.err HF.out.2 (by decide) HO.out)
  obtain ⟨fi, fn, hfi, hfn⟩ := findF_some hf
  have HS2 := Lib.hid (HS1.out.trans (if_neg hf))
  rw [hfi] at HS2 ⊢
  rw [Int.toNat_natCast, hfn] at HS2
  clear hf HS1
  obtain ⟨hfl, hget⟩ := List.getElem?_eq_some_iff.1 hfn
  obtain ⟨b, o, rfl, hfo⟩ := HL.out.at_ hfl
  have HFO := Lib.hid (show FnO w b (o + fi * 7) fn by rw [← hget]; exact hfo)
  obtain ⟨Ap, cp, hp1', hps⟩ := HFO.out.ps
  have HPS := Lib.hid hps
  have HP1 := Lib.hid hp1'
  have hp1 := below_cell HB3.out hp1'
  have hbl : b < w4.heap.size := block_lt_of_cell hp1
  have r1 : (0 : Int) ≤ fi := by omega
  have r2 : (fi : Int) < lib.length := by omega
  have hpl : fn.params.length ≤ 1000 := HX.out.par fi fn hfn
  have HFN := Lib.hid hfn
  clear hfn hget hfo hps hp1' hfi
  by_cases hla : args.length = fn.params.length
  rotate_left
  · have HO := Lib.hid (HS2.out.trans (if_pos hla))
    have hn1 : ((args.length : Int) != fn.params.length) = true := bne_iff_ne.2 (by omega)
    obtain ⟨⟨y0, y1, y2, y3, y4, y5⟩, x0, x1, x2, x3, x4, x5⟩ := HX3.out.six
    clear hla
    go_wp2_with fail
    have HF := Lib.hid (And.intro (HX3.out.set6 (.int .i64 0) (.slice none 0 0) (.bool false) (.int .i64 0) (.slice none 0 0) (.slice none 0 0)) (belowR6 HB3.out (Nat.le_refl w.heap.size) (.int .i64 0) (.slice none 0 0) (.bool false) (.int .i64 0) (.slice none 0 0) (.slice none 0 0)))
    generalize World.setCell _ _ _ = WF at HF ⊢
    obtain ⟨⟨g0, g1, g2, g3, g4, g5⟩, _⟩ := HF.out.1.six
    exact bodyPost_ret (v := .tuple #[.agg #[.int .i64 0, .slice none 0 0, .bool false, .int .i64 0, .slice none 0 0, .slice none 0 0], .int .i64 7]) (by simp [results, Try.results7, go_sem, g0, g1, g2, g3, g4, g5]) rfl (RetTr.err HF.out.2 (by decide) HO.out)
  have hn1 : ((args.length : Int) != fn.params.length) = false := by rw [hla]; simp
  have HLA := Lib.hid hla
  have HS3 := Lib.hid (HS2.out.trans (if_neg (fun e => e hla)))
  have H0 := Lib.hid (show TrR w (w4.alloc (Obj.cells #[] 28)) args 0 (.slice (some ⟨w4.heap.size, 0, none⟩) 0 0) from by
    have q1 := below_box w4 (Obj.cells #[] 28)
    have o2 := own_emptyP w4 (e := 28) (size := 3)
    exact ⟨below_step HB3.out HB3.out.size q1, HX3.out.below q1, [], ⟨o2.1, o2.2.imp id fun ⟨g, cap, cur, e, hg, r⟩ => ⟨g, cap, cur, e, by omega, r⟩⟩, by rw [List.take_zero]; exact RowG.nil⟩)
  clear hla HS2
  go_upto_region 11 with fail
  clear hn1 hp1
  go_loopw [13, 14] (fun u i wr => ∃ k : Nat, k ≤ args.length ∧ i = .int .i64 k ∧ Hid (TrR w wr args k u) ∧ Hid (∀ j, j < k → ∃ a p, args[j]? = some a ∧ fn.params[j]? = some p ∧ a.list = p.list)) (fun _ i _ => args.length - (intOf i).toNat)
  case atStart => exact ⟨0, by omega, rfl, H0, fun j hj => by omega⟩
  case round =>
    obtain ⟨k, hk, rfl, hr, hall⟩ := hrel
    obtain ⟨cs, ho, hrow⟩ := hr.out.own
    obtain ⟨Au, cu, rfl, hcu, _⟩ := own_formB ho
    by_cases hin : k < args.length
    · have hin' : k < fn.params.length := by rw [← HLA.out]; exact hin
      obtain ⟨ba', oa', A', c', rfl, _, d0, d1, d2, hi⟩ := HV.out k _ (List.getElem?_eq_getElem hin)
      replace d0 := below_cell hr.out.hb d0
      replace d1 := below_cell hr.out.hb d1
      replace d2 := below_cell hr.out.hb d2
      obtain ⟨bp, op, rfl, e0, e1⟩ := (HPS.out.mono hr.out.hb).at_ hin'
      have g1 := Lib.hid (List.getElem?_eq_getElem hin)
      have g2 := Lib.hid (List.getElem?_eq_getElem hin')
      have hvk := HVL.out _ (List.getElem_mem hin)
      have HI := Lib.hid hi
      have HOR := Lib.hid (And.intro ho hrow)
      have HPU := Lib.hid (fun (W w' : World) (v' : Value) (c : List Value) (hc : ValC w (fun _ => False) c (cln args[k])) (hW : Below wr.heap.size wr W) (hg : W.grownBy w' (Value.slice Au k cu).ownBlock) (hown : w'.ownsRow (w.heap.size + 1) 28 3 v' (k + 1) (cs ++ c)) => TrR.push hr.out ho hrow hin hc hW hg hown)
      generalize args[k] = u at *
      generalize fn.params[k] = p at *
      have hp2 := below_cell hr.out.hb HP1.out
      have hlt1 : ba' < wr.heap.size := block_lt_of_cell d0
      have hlt2 : bp < wr.heap.size := block_lt_of_cell e0
      have hlt3 : b < wr.heap.size := block_lt_of_cell hp2
      have rk1 : (0 : Int) ≤ k := by omega
      have rk2 : (k : Int) < args.length := by omega
      have rk3 : (k : Int) < fn.params.length := by omega
      by_cases hup : u.list = p.list
      · have hall' := Lib.hid (fun j (hj : j < k + 1) => show ∃ a p, args[j]? = some a ∧ fn.params[j]? = some p ∧ a.list = p.list from by
          by_cases e : j = k
          · rw [e]; exact ⟨u, p, g1.out, g2.out, hup⟩
          · exact hall.out j (by omega))
        rw [← hup] at e1
        have hu1 : (u.list != u.list) = false := by simp
        obtain ⟨i0, hi0, hz0, hz1, hz2⟩ := info_parts info_rvalE
        have HSZ := Lib.hid hr.out.x.lt
        clear hup hi ho hrow g1 g2
        go_wp2_with fail
        go_quiet (fail)
        have hbq := below_drewN (Below.refl wr.heap.size wr) nq
        generalize wr.drewN nq = V at hbq ⊢
        replace d0 := below_cell hbq d0
        replace d1 := below_cell hbq d1
        replace d2 := below_cell hbq d2
        have hsv := hbq.size
        have HBQ := Lib.hid hbq
        clear hbq
        cases hu : u.list with
        | true =>
          rw [hu] at d0
          have HB9 := Lib.hid (HBQ.out.alloc HBQ.out.size (Obj.cells #[.bool true, .int .i64 0, .slice A' u.l.length c'] 28))
          have HOW := Lib.hid (own_below HOR.out.1 HB9.out)
          have HVC := Lib.hid (show ValC w (fun _ => False) [.bool true, .int .i64 0, .slice A' u.l.length c'] (cln u) from by
            unfold cln; rw [if_pos hu]; exact ⟨A', c', rfl, HI.out.2, HI.out.1, by show u.l.length ≤ 1000000; omega⟩)
          have HS9 := Lib.hid (show w.heap.size + 1 ≤ (V.alloc (Obj.cells #[.bool true, .int .i64 0, .slice A' u.l.length c'] 28)).heap.size by have := HSZ.out; simp; omega)
          clear hu
          go_wp2_with (at_builtin; go_loud (refine wpList_app _ rfl _ _ 23 rfl (w.heap.size + 1) 28 i0 (.agg #[.bool false, .int .i64 0, .slice none 0 0]) 3 40 Try.underlying23 hi0 hz0 hz1 hz2 rfl (by decide) _ _ _ rfl HOW.out (some ⟨V.heap.size, 0, none⟩) 1 1 [.bool true, .int .i64 0, .slice A' u.l.length c'] rfl rfl (cells_litC V _ _) (ValC.one _ _ HVC.out) (by unfold maxLen; omega) (by omega) HS9.out ?_; intro v' w11 hown' hgrow hat; have NX := Lib.hid (HPU.out _ _ _ _ HVC.out HB9.out hgrow hown'); clear hown' hgrow hat))
          exact ⟨⟨k + 1, by omega, by go_num, NX, hall'⟩, by simp [intOf]; omega⟩
        | false =>
          rw [hu] at d0
          go_upto_region 17 with fail
          go_wp2_with fail
          refine (rnum_any u.n V).mono ?_
          rintro e w7 ⟨rfl, hb7⟩
          have HB9 := Lib.hid ((below_step HBQ.out HBQ.out.size hb7).alloc (by have := hb7.size; omega) (Obj.cells #[.bool false, .int .i64 u.n, .slice none 0 0] 28))
          have HOW := Lib.hid (own_below HOR.out.1 HB9.out)
          have HVC := Lib.hid (show ValC w (fun _ => False) [.bool false, .int .i64 u.n, .slice none 0 0] (cln u) from by
            unfold cln; rw [if_neg (by rw [hu]; simp)]; exact ⟨none, 0, rfl, IntsX.nil _ _ _, Nat.le_refl 0, Nat.zero_le _⟩)
          have HS9 := Lib.hid (show w.heap.size + 1 ≤ (w7.alloc (Obj.cells #[.bool false, .int .i64 u.n, .slice none 0 0] 28)).heap.size by have := HSZ.out; have := hb7.size; simp; omega)
          clear hu hb7
          go_wp2_with (at_builtin; go_loud (refine wpList_app _ rfl _ _ 23 rfl (w.heap.size + 1) 28 i0 (.agg #[.bool false, .int .i64 0, .slice none 0 0]) 3 40 Try.underlying23 hi0 hz0 hz1 hz2 rfl (by decide) _ _ _ rfl HOW.out (some ⟨w7.heap.size, 0, none⟩) 1 1 [.bool false, .int .i64 u.n, .slice none 0 0] rfl rfl (cells_litC w7 _ _) (ValC.one _ _ HVC.out) (by unfold maxLen; omega) (by omega) HS9.out ?_; intro v' w11 hown' hgrow hat; have NX := Lib.hid (HPU.out _ _ _ _ HVC.out HB9.out hgrow hown'); clear hown' hgrow hat))
          exact ⟨⟨k + 1, by omega, by go_num, NX, hall'⟩, by simp [intOf]; omega⟩
      · have HO := Lib.hid (HS3.out.trans (if_pos (tyB_not g1.out g2.out hup)))
        have hup2 : (u.list = true ∧ p.list = false) ∨ (u.list = false ∧ p.list = true) := by
          cases hu : u.list <;> cases hp : p.list <;> simp_all
        have HRR := Lib.hid (And.intro hr.out.x hr.out.hb)
        clear hup hi g1 g2 ho hrow
        rcases hup2 with ⟨hu, hp⟩ | ⟨hu, hp⟩
        all_goals
          rw [hu] at d0
          rw [hp] at e1
          clear hu hp
          go_wp2_with fail
          go_quiet (fail)
          have hbq := below_drewN (Below.refl wr.heap.size wr) nq
          generalize wr.drewN nq = V at hbq ⊢
          have HXV := Lib.hid (HRR.out.1.below hbq)
          have HBV := Lib.hid (below_step HRR.out.2 HRR.out.2.size hbq)
          clear hbq
          obtain ⟨⟨y0, y1, y2, y3, y4, y5⟩, x0, x1, x2, x3, x4, x5⟩ := HXV.out.six
          go_wp2_with fail
          have HF := Lib.hid (And.intro (HXV.out.set6 (.int .i64 0) (.slice none 0 0) (.bool false) (.int .i64 0) (.slice none 0 0) (.slice none 0 0)) (belowR6 HBV.out (Nat.le_refl w.heap.size) (.int .i64 0) (.slice none 0 0) (.bool false) (.int .i64 0) (.slice none 0 0) (.slice none 0 0)))
          generalize World.setCell _ _ _ = WF at HF ⊢
          obtain ⟨⟨g0, g1, g2, g3, g4, g5⟩, _⟩ := HF.out.1.six
          exact bodyPost_ret (v := .tuple #[.agg #[.int .i64 0, .slice none 0 0, .bool false, .int .i64 0, .slice none 0 0, .slice none 0 0], .int .i64 7]) (by simp [results, Try.results7, go_sem, g0, g1, g2, g3, g4, g5]) rfl (RetTr.err HF.out.2 (by decide) HO.out)
    · obtain rfl : k = args.length := by omega
      have HS4 := Lib.hid (HS3.out.trans (if_neg (by rw [tyB_get HLA.out hall.out]; simp)))
      rw [List.take_of_length_le (Nat.le_refl _)] at hrow
      obtain ⟨A2, c2, e2, _, hcells⟩ := cells_of_own ho (by rw [hrow.len ValC.len, List.length_map])
      cases e2
      have hwr := hr.out.x.lt
      have HVN : Hid (ValsC wr (fun k => k = w.heap.size) Au (args.map cln)) := Lib.hid ⟨cs, hrow.map (ValC.le (Le.below hr.out.hb (fun k hk e => by omega))), fun j u hu => by obtain ⟨b, o, e, _, h⟩ := hcells j u hu; exact ⟨b, o, e, h⟩⟩
      have HML := Lib.hid (show (args.map cln).length = args.length by simp)
      have HRE := Lib.hid (renter_any w HX.out (reval_all w (some ⟨b, o, none⟩) cap lib HX.out F.toNat) HFN.out (args.map cln) Au cu F 0 wr (HL.out.mono hr.out.hb) HVN.out (fun a ha => by obtain ⟨v, _, rfl⟩ := List.mem_map.1 ha; exact cl_cln v) (by rw [HML.out, HLA.out]) (Nat.le_refl _) hFu (by omega) (fun k e => by omega))
      rw [HML.out] at HRE
      have HRR := Lib.hid (And.intro hr.out.x hr.out.hb)
      have HIN := Lib.hid (fun (k : Nat) (hk : k < args.length) => show ((args.map cln)[k]'(by rw [HML.out]; exact hk)).l.length ≤ 1000 from by
        rw [List.getElem_map]
        have := HVL.out _ (List.getElem_mem hk)
        unfold cln; split
        · exact this
        · exact Nat.zero_le _)
      obtain ⟨ot, hot⟩ : ∃ ot, enter lib (ev apR lib F.toNat) 0 fi (args.map cln) F.toNat = ot := ⟨_, rfl⟩
      rw [hot] at HRE HS4
      clear hot hcells hrow ho hr hall HS3 hin
      go_wp2_with fail
      obtain ⟨wo, rfl⟩ : ∃ wo : World, wo = wr := ⟨_, rfl⟩
      go_loopw [15] (fun i wr => ∃ k : Nat, k ≤ args.length ∧ i = .int .i64 k ∧ wr = wo) (fun i _ => args.length - (intOf i).toNat)
      case atStart => exact ⟨0, by omega, rfl, rfl⟩
      case round =>
        obtain ⟨k, hk, rfl, rfl⟩ := hrel
        by_cases hin : k < args.length
        · obtain ⟨ab, ao, Ay, cy, rfl, a0, a1, a2, _⟩ := HVN.out.at_ (k := k) (by rw [HML.out]; exact hin)
          have hin2 := HIN.out k hin
          generalize (args.map cln)[k]'(by rw [HML.out]; exact hin) = u at *
          have hlt1 := block_lt_of_cell a0
          have rk1 : (0 : Int) ≤ k := by omega
          have rk2 : (k : Int) < args.length := by omega
          have rk4 : ¬ (1000 : Int) < u.l.length := by omega
          clear hin2
          go_wp2_with fail
          exact ⟨⟨k + 1, by omega, by simp⟩, by simp [intOf]; omega⟩
        · obtain rfl : k = args.length := by omega
          clear hin
          go_upto_region 23 with fail
          go_wp2_with fail
          refine HRE.out.mono ?_
          intro e w8 ho
          cases ot with
          | err k2 =>
            obtain ⟨hb8, hk2, rfl⟩ := ho
            have hb9 := below_box w8 (Obj.cells #[.int .i64 0, .slice none 0 0, .bool false, .int .i64 0, .slice none 0 0, .slice none 0 0] 34)
            have HO9 := Lib.hid (bx_new w8 #[.int .i64 0, .slice none 0 0, .bool false, .int .i64 0, .slice none 0 0, .slice none 0 0] 34)
            have HX9 := Lib.hid ((HRR.out.1.below hb8).below hb9)
            have HB9 := Lib.hid (below_step (below_step HRR.out.2 HRR.out.2.size hb8) (by have := HRR.out.2.size; have := hb8.size; omega) hb9)
            have HK8 := Lib.hid hk2
            have hlt8 : w.heap.size < w8.heap.size := by have := hb8.size; omega
            clear hb8 hb9 hk2
            go_upto_region 24 with fail
            generalize w8.alloc _ = W9 at HO9 HX9 HB9 ⊢
            obtain ⟨⟨o0, o1, o2, o3, o4, o5⟩, p0, p1, p2, p3, p4, p5⟩ := HO9.out.six
            obtain ⟨⟨y0, y1, y2, y3, y4, y5⟩, x0, x1, x2, x3, x4, x5⟩ := HX9.out.six
            go_wp2_with fail
            have HF := Lib.hid (And.intro (HX9.out.set6 (.int .i64 0) (.slice none 0 0) (.bool false) (.int .i64 0) (.slice none 0 0) (.slice none 0 0)) (belowR6 HB9.out (Nat.le_refl w.heap.size) (.int .i64 0) (.slice none 0 0) (.bool false) (.int .i64 0) (.slice none 0 0) (.slice none 0 0)))
            generalize World.setCell _ _ _ = WF at HF ⊢
            obtain ⟨⟨g0, g1, g2, g3, g4, g5⟩, _⟩ := HF.out.1.six
            exact bodyPost_ret (v := .tuple #[.agg #[.int .i64 0, .slice none 0 0, .bool false, .int .i64 0, .slice none 0 0, .slice none 0 0], .int .i64 k2]) (by simp [results, Try.results7, go_sem, g0, g1, g2, g3, g4, g5]) rfl (RetTr.err HF.out.2 HK8.out HS4.out)
          | ok t g =>
            obtain ⟨hb8, fi2, Aa2, na, ca2, A8, c8, Ac8, mc8, cc8, rfl, hx8, hm8, hi8, hc8, hv8⟩ := ho
            have hb9 := below_box w8 (Obj.cells #[.int .i64 fi2, .slice Aa2 na ca2, .bool t.res.list, .int .i64 t.res.n, .slice A8 t.res.l.length c8, .slice Ac8 mc8 cc8] 34)
            have HO9 := Lib.hid (bx_new w8 #[.int .i64 fi2, .slice Aa2 na ca2, .bool t.res.list, .int .i64 t.res.n, .slice A8 t.res.l.length c8, .slice Ac8 mc8 cc8] 34)
            have HX9 := Lib.hid ((HRR.out.1.below hb8).below hb9)
            have HB9 := Lib.hid (below_step (below_step HRR.out.2 HRR.out.2.size hb8) (by have := HRR.out.2.size; have := hb8.size; omega) hb9)
            have HI9 := Lib.hid (hi8.le (Le.below hb9 (fun _ _ e => e)))
            have hlt8 : w.heap.size < w8.heap.size := by have := hb8.size; omega
            clear hb8 hb9 hx8 hi8
            go_upto_region 24 with fail
            generalize w8.alloc _ = W9 at HO9 HX9 HB9 HI9 ⊢
            obtain ⟨⟨o0, o1, o2, o3, o4, o5⟩, p0, p1, p2, p3, p4, p5⟩ := HO9.out.six
            obtain ⟨⟨y0, y1, y2, y3, y4, y5⟩, x0, x1, x2, x3, x4, x5⟩ := HX9.out.six
            go_wp2_with fail
            have HF := Lib.hid (And.intro (HX9.out.set6 (.int .i64 fi2) (.slice Aa2 na ca2) (.bool t.res.list) (.int .i64 t.res.n) (.slice A8 t.res.l.length c8) (.slice Ac8 mc8 cc8)) (belowR6 HB9.out (Nat.le_refl w.heap.size) (.int .i64 fi2) (.slice Aa2 na ca2) (.bool t.res.list) (.int .i64 t.res.n) (.slice A8 t.res.l.length c8) (.slice Ac8 mc8 cc8)))
            have HLE := Lib.hid (Le.of_fr (X := fun k => k = w.heap.size) (X' := fun _ => False) (Fr.set6 W9 w.heap.size (.int .i64 fi2) (.slice Aa2 na ca2) (.bool t.res.list) (.int .i64 t.res.n) (.slice A8 t.res.l.length c8) (.slice Ac8 mc8 cc8)) (fun k _ e => e) (fun k _ e => e.elim))
            generalize World.setCell _ _ _ = WF at HF HLE ⊢
            obtain ⟨⟨g0, g1, g2, g3, g4, g5⟩, _⟩ := HF.out.1.six
            exact bodyPost_ret (v := .tuple #[.agg #[.int .i64 fi2, .slice Aa2 na ca2, .bool t.res.list, .int .i64 t.res.n, .slice A8 t.res.l.length c8, .slice Ac8 mc8 cc8], .int .i64 0]) (by simp [results, Try.results7, go_sem, g0, g1, g2, g3, g4, g5]) rfl (by rw [HS4.out]; exact ⟨HF.out.2, fi2, Aa2, na, ca2, A8, c8, Ac8, mc8, cc8, rfl, HI9.out.le HLE.out, hc8, hv8⟩)

end Go.Proofs.Ytoankdaddgjnlaa

namespace Go.Proofs.Ytoankdaddgjnlaa

theorem vr_cln {a : Vl} (h : a.list = true → a.l.length ≤ 1000) : VR a.list a (cln a) := by
  obtain ⟨l, n, q⟩ := a
  cases l with
  | true => exact ⟨rfl, rfl, fun _ => ⟨rfl, h rfl⟩, fun e => by cases e⟩
  | false => exact ⟨rfl, rfl, fun e => (by cases e), fun _ => rfl⟩
theorem vrs_cln : ∀ (args : List Vl), longB args = false → VRs (args.map Vl.list) args (args.map cln)
  | [], _ => VRs.nil
  | a :: r, h => by
    unfold longB at h
    rw [List.any_cons, Bool.or_eq_false_iff] at h
    refine VRs.cons (vr_cln fun ha => ?_) (vrs_cln r h.2)
    have := h.1
    rw [ha] at this
    simp at this
    omega
theorem start_cln {lib : List Fn1} (L : LibOk lib) {fn : Fn1} {i : Int} (hi : lib[i.toNat]? = some fn) {args : List Vl} (ht : tyB args fn.params = true) (hl : longB args = false) (d F : Nat) : Out.vr fn.list (enter lib (ev apR lib d) 0 i args F).out (enter lib (ev apR lib d) 0 i (args.map cln) F).out := by
  have hv := vrs_cln args hl
  unfold tyB at ht
  rw [of_decide_eq_true ht] at hv
  exact enter_vr L (fun a te e e' x f ty h1 h2 h3 => ev_vr apR L d a te e e' x f ty h1 h2 h3) 0 i hi hv F

end Go.Proofs.Ytoankdaddgjnlaa

namespace Go.Proofs.Ytoankdaddgjnlaa
open Go.ChangeShapes Go.WideShapes Go.ChangeAt Go.RowKit Go.Sort Go.Maps

theorem out_inj {o o' : OutT} {ty : Bool} (h : Out.vr ty o.out o'.out) : o = o' := by
  rcases h with ⟨e, h1, h2⟩ | ⟨a, b, f, c, h1, h2, _⟩
  · cases o with
    | ok t f => simp [OutT.out] at h1
    | err k => cases o' with
      | ok t f => simp [OutT.out] at h2
      | err k2 => simp [OutT.out] at h1 h2; rw [h1, h2]
  · cases o with
    | err k => simp [OutT.out] at h1
    | ok t g => cases o' with
      | err k => simp [OutT.out] at h2
      | ok t2 g2 =>
        simp [OutT.out] at h1 h2
        obtain ⟨_, rfl, rfl⟩ := h1
        obtain ⟨_, rfl, e⟩ := h2
        rw [(List.cons.inj e).1]
theorem enter_res_cl {lib : List Fn1} {E : Nat → (ByteArray → Option Vl) → Nd → Nat → Out} {act : Nat} {i : Int} {us : List Vl} {f : Nat} {t : Tr} {g : Nat} (h : enter lib E act i us f = .ok t g) : Cl t.res := by
  unfold enter at h
  split at h
  · cases h
  · split at h
    · cases h
    · split at h
      · cases h
      · cases h; exact cl_cln _
/-- The specification's trace is the program's call. -/
theorem trace_eq {lib : List Fn1} {name : ByteArray} {args : List Vl} (hl : longB args = false) (F : Int) : traceR lib name args F = startR lib name args F := by
  unfold traceR startR
  by_cases hv : (validR lib).2 ≠ 0
  · rw [if_pos hv, if_pos hv]
  rw [if_neg hv, if_neg hv]
  by_cases hf : findF lib name 0 < 0
  · rw [if_pos hf, if_pos hf]
  rw [if_neg hf, if_neg hf]
  cases hi : lib[(findF lib name 0).toNat]? with
  | none => rfl
  | some fn =>
    dsimp only
    by_cases h1 : args.length ≠ fn.params.length
    · rw [if_pos h1, if_pos h1]
    rw [if_neg h1, if_neg h1]
    by_cases h2 : tyB args fn.params = false
    · rw [if_pos h2, if_pos h2]
    rw [if_neg h2, if_neg h2, if_neg (by rw [hl]; simp)]
    exact (out_inj (start_cln (LibOk.of (by omega)) hi (by simpa using h2) hl F.toNat F.toNat)).symm
theorem start_cl {lib : List Fn1} {name : ByteArray} {args : List Vl} {F : Int} {t : Tr} {g : Nat} (h : startR lib name args F = .ok t g) : Cl t.res := by
  unfold startR at h
  split at h
  · cases h
  split at h
  · cases h
  split at h
  · cases h
  split at h
  · cases h
  split at h
  · cases h
  split at h
  · cases h
  exact enter_res_cl h
theorem small_long {lib : List Fn1} {args : List Vl} (h : SmallV lib args) : longB args = false := by
  unfold longB
  rw [List.any_eq_false]
  intro v hv
  obtain ⟨k, hk, rfl⟩ := List.getElem_of_mem hv
  have := h.v k _ (List.getElem?_eq_getElem hk)
  simp
  intro _
  omega

set_option maxRecDepth 100000 in
set_option maxHeartbeats 2000000 in
theorem funevalCalls_walk (lib : List Fn1) (A : Option Addr) (cap : Nat) (name : ByteArray) (args : List Vl) (Aa : Option Addr) (ca : Nat) (F : Int) (w : World) (hL : LibAt w A lib) (hF : LibFit lib) (hV : VlsX w (fun _ => False) Aa args) (hvl : ∀ v ∈ args, v.l.length ≤ 9223372036854775807) (hal : args.length ≤ 9223372036854775807) (hFl : -9223372036854775808 ≤ F) :
    Calls Try.prog 3 #[.slice A lib.length cap, .string name, .slice Aa args.length ca, .int .i64 F] w fun e w' => e = .returned (.bool true) ∧ Below w.heap.size w w' := by
  have HL := Lib.hid hL
  have HV := Lib.hid hV
  have HVL := Lib.hid hvl
  clear hL hV hvl
  go_enter Try.func3, Try.ntmps3
  go_wp2_with fail
  refine (awake_any w).mono ?_
  rintro e w1 ⟨rfl, hb1⟩
  have q1 := Lib.hid hb1
  clear hb1
  go_wp2_with fail
  refine (Great_any lib A cap args Aa ca w1 (HL.out.mono q1.out) hF (HV.out.mono q1.out) HVL.out hal).mono ?_
  rintro e w2 ⟨g, rfl, hg, hb2⟩
  have q2 := Lib.hid (below_step q1.out q1.out.size hb2)
  have HG := Lib.hid hg
  clear hb2 hg q1
  cases g with
  | true => go_wp2_with fail; go_ret; exact ⟨rfl, q2.out⟩
  | false =>
    by_cases h1 : 2000 < F
    · go_wp2_with fail; go_ret; exact ⟨rfl, q2.out⟩
    have HS := Lib.hid (HG.out rfl)
    obtain ⟨sh, hsh⟩ : ∃ sh : Int → OutT, sh = startR lib name args := ⟨_, rfl⟩
    have HC := Lib.hid hsh
    have HCL := Lib.hid (fun (t : Tr) (g : Nat) (h : sh F = .ok t g) => start_cl (F := F) (lib := lib) (name := name) (args := args) (by rw [← hsh]; exact h))
    have HTR := Lib.hid (fun (W : World) (hb : Below w.heap.size w W) => rtrace_any lib A cap name args Aa ca F W (HL.out.mono hb) hF HS.out.fn (HV.out.mono hb) (fun v hv => by
      obtain ⟨k, hk, rfl⟩ := List.getElem_of_mem hv
      have := HS.out.v k _ (List.getElem?_eq_getElem hk)
      omega) (by have := HS.out.a; omega) (by omega))
    rw [trace_eq (small_long HS.out), ← hsh] at HTR
    clear hsh HG
    go_wp2_with fail
    refine (call_v lib A cap name args Aa ca sh HC.out F w2 (HL.out.mono q2.out) hF HS.out (HV.out.mono q2.out) (by omega)).mono ?_
    rintro e w3 ⟨hb3, hl3, hco, A3, c3, hi3, rfl⟩
    obtain ⟨oo, hoo⟩ : ∃ oo, sh F = oo := ⟨_, rfl⟩
    rw [hoo] at hl3 hco hi3 HTR HCL ⊢
    have q3 := Lib.hid (below_step q2.out q2.out.size hb3)
    have hc3 := hi3.1
    have I3 := Lib.hid hi3.at_
    clear hb3 q2 hi3 HC hoo
    cases oo with
    | err k =>
      have hk : k ≠ 0 := hco.resolve_left (fun ⟨t, f, e⟩ => by cases e)
      have hk1 : (k != 0) = true := bne_iff_ne.2 hk
      have hk2 : (k == k) = true := by simp
      clear hk hco hl3 HCL
      dsimp only [OutT.val, OutT.code] at I3 hc3 ⊢
      have bb4 := below_box w3 (Obj.cells #[.bool false, .int .i64 0, .slice A3 0 c3] 28)
      have vb4 := bx_new w3 #[.bool false, .int .i64 0, .slice A3 0 c3] 28
      have q4 := Lib.hid (below_step q3.out q3.out.size bb4)
      have I4 := Lib.hid (I3.out.mono bb4)
      clear bb4 I3 q3
      go_wp2_with fail
      generalize World.alloc _ _ = W4 at vb4 q4 I4 ⊢
      refine (HTR.out W4 q4.out).mono ?_
      rintro e w5 ⟨hb5, hk5, rfl⟩
      have q5 := Lib.hid (below_step q4.out q4.out.size hb5)
      have I5 := Lib.hid (I4.out.mono hb5)
      have vb5 := vb4.below hb5
      clear hb5 q4 I4 vb4 hk5
      have bb6 := below_box w5 (Obj.cells #[.int .i64 0, .slice none 0 0, .bool false, .int .i64 0, .slice none 0 0, .slice none 0 0] 34)
      have vb6 := vb5.below bb6
      have q6 := Lib.hid (below_step q5.out q5.out.size bb6)
      have I6 := Lib.hid (I5.out.mono bb6)
      clear bb6 I5 q5 vb5
      obtain ⟨y0, y1, y2, _⟩ := vb6.three
      have hlt := vb6.lt
      go_wp2_with fail
      generalize World.alloc _ _ = W6 at *
      refine (equal_any ⟨false, 0, []⟩ ⟨false, 0, []⟩ A3 none c3 0 W6 I6.out (fun j u hu => by simp at hu) (by simp) (by simp)).mono ?_
      rintro e w7 ⟨rfl, hb7⟩
      have q7 := Lib.hid (below_step q6.out q6.out.size hb7)
      rw [eqV_refl]
      replace y0 := below_cell hb7 y0
      replace y1 := below_cell hb7 y1
      replace y2 := below_cell hb7 y2
      clear hb7
      go_wp2_with fail
      go_ret
      exact ⟨rfl, q7.out⟩
    | ok t f =>
      have HCT := Lib.hid (HCL.out t f rfl)
      clear HCL hco
      dsimp only [OutT.val, OutT.code] at I3 hc3 hl3 ⊢
      have bb4 := below_box w3 (Obj.cells #[.bool t.res.list, .int .i64 t.res.n, .slice A3 t.res.l.length c3] 28)
      have vb4 := bx_new w3 #[.bool t.res.list, .int .i64 t.res.n, .slice A3 t.res.l.length c3] 28
      have q4 := Lib.hid (below_step q3.out q3.out.size bb4)
      have I4 := Lib.hid (I3.out.mono bb4)
      clear bb4 I3 q3
      go_wp2_with fail
      generalize World.alloc _ _ = W4 at vb4 q4 I4 ⊢
      refine (HTR.out W4 q4.out).mono ?_
      rintro e w5 ⟨hb5, fi, Aa2, na, ca2, A8, c8, Ac, mc, cc, rfl, hi8, hc8, hl8⟩
      have q5 := Lib.hid (below_step q4.out q4.out.size hb5)
      have I5 := Lib.hid (I4.out.mono hb5)
      have J5 := Lib.hid hi8.at_
      have vb5 := vb4.below hb5
      clear hb5 q4 I4 vb4 hi8
      have bb6 := below_box w5 (Obj.cells #[.int .i64 fi, .slice Aa2 na ca2, .bool t.res.list, .int .i64 t.res.n, .slice A8 t.res.l.length c8, .slice Ac mc cc] 34)
      have tb6 := bx_new w5 #[.int .i64 fi, .slice Aa2 na ca2, .bool t.res.list, .int .i64 t.res.n, .slice A8 t.res.l.length c8, .slice Ac mc cc] 34
      have vb6 := vb5.below bb6
      have q6 := Lib.hid (below_step q5.out q5.out.size bb6)
      have I6 := Lib.hid (I5.out.mono bb6)
      have J6 := Lib.hid (J5.out.mono bb6)
      clear bb6 I5 J5 q5 vb5
      obtain ⟨y0, y1, y2, _⟩ := vb6.three
      obtain ⟨⟨o0, o1, o2, o3, o4, o5⟩, _⟩ := tb6.six
      have hlt := vb6.lt
      go_wp2_with fail
      generalize World.alloc _ _ = W6 at *
      refine (equal_any t.res t.res A3 A8 c3 c8 W6 I6.out J6.out (by omega) (by omega)).mono ?_
      rintro e w7 ⟨rfl, hb7⟩
      have q7 := Lib.hid (below_step q6.out q6.out.size hb7)
      rw [eqV_refl]
      replace y0 := below_cell hb7 y0
      replace y1 := below_cell hb7 y1
      replace y2 := below_cell hb7 y2
      clear hb7
      cases hu : t.res.list with
      | true =>
        have hn : t.res.n = 0 := by have := HCT.out; unfold Cl cln at this; rw [if_pos hu] at this; rw [← this]
        rw [hu] at y0
        rw [hn] at y1
        clear hu hn
        go_wp2_with fail
        go_ret
        exact ⟨rfl, q7.out⟩
      | false =>
        have hn : t.res.l.length = 0 := by have := HCT.out; unfold Cl cln at this; rw [if_neg (by rw [hu]; simp)] at this; rw [← this]; rfl
        rw [hu] at y0
        rw [hn] at y2
        clear hu hn
        go_wp2_with fail
        go_ret
        exact ⟨rfl, q7.out⟩

end Go.Proofs.Ytoankdaddgjnlaa

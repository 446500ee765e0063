/-
  The contracts of funeval.start, Call and Trace.
-/
import Derived.Test.YtoankdaddgjnlaaFevAll
import Derived.Test.YtoankdaddgjnlaaFunVT
namespace Go.Proofs.Ytoankdaddgjnlaa
open Go.ChangeShapes Go.WideShapes Go.ChangeAt Go.RowKit Go.Sort Go.Maps

def tyB (args : List Vl) (ps : List Pm) : Bool := decide (args.map Vl.list = ps.map Pm.list)
def longB (args : List Vl) : Bool := args.any fun a => a.list && decide (1000 < a.l.length)
/-- What a call of the evaluator comes to. -/
noncomputable def startR (lib : List Fn1) (name : ByteArray) (args : List Vl) (F : Int) : OutT :=
  if (validR lib).2 ≠ 0 then .err 3
  else if findF lib name 0 < 0 then .err 21
  else match lib[(findF lib name 0).toNat]? with
    | none => .err 0
    | some fn => if args.length ≠ fn.params.length then .err 7 else if tyB args fn.params = false then .err 7 else if longB args = true then .err 5 else enter lib (ev apR lib F.toNat) 0 (findF lib name 0) args F.toNat
def RetS (o : OutT) (tr : Bool) (S0 : Nat → Prop) (w : World) (e : Ending) (w' : World) : Prop :=
  Below w.heap.size w w' ∧
  ((∃ n, o = .err n ∧ n ≠ 0 ∧ e = .returned (.tuple #[.agg #[.int .i64 0, .slice none 0 0, .bool false, .int .i64 0, .slice none 0 0, .slice none 0 0], .int .i64 n])) ∨
  (∃ t f1, o = .ok t f1 ∧ t.res.l.length ≤ 1000000 ∧ ∃ cs, TrC w' S0 cs (trT tr t) ∧ NewR tr w w' cs t.res.l ∧ e = .returned (.tuple #[.agg cs.toArray, .int .i64 0])))
theorem libX_of {W0 : World} {A : Option Addr} {lib : List Fn1} (hL : LibAt W0 A lib) (hF : LibFit lib) (hv : (validR lib).2 = 0) : LibX W0 A lib := by
  have one := fun (i : Nat) (f : Fn1) (h : lib[i]? = some f) => one_facts (valid_facts hv h)
  exact ⟨hL, hF, fun i f h => (one i f h).2.2.2.2.1, fun i f h => chk_ar lib f.body (envF f.params) (by rw [(one i f h).2.2.2.2.2.2.2]), fun i f h => by have := (one i f h).2.2.2.2.2.2.1; omega, fun i f h => by have := paramE_zero (one i f h).2.2.2.1; omega⟩
theorem tyB_get {args : List Vl} {ps : List Pm} (hl : args.length = ps.length) : (∀ k, k < args.length → ∃ a p, args[k]? = some a ∧ ps[k]? = some p ∧ a.list = p.list) → tyB args ps = true := fun h => by
  unfold tyB
  simp only [decide_eq_true_eq]
  apply List.ext_getElem?
  intro k
  rw [List.getElem?_map, List.getElem?_map]
  by_cases hk : k < args.length
  · obtain ⟨a, p, h1, h2, h3⟩ := h k hk
    rw [h1, h2]; simp [h3]
  · rw [List.getElem?_eq_none (by omega), List.getElem?_eq_none (by omega)]; rfl
theorem tyB_not {args : List Vl} {ps : List Pm} {k : Nat} {a : Vl} {p : Pm} (h1 : args[k]? = some a) (h2 : ps[k]? = some p) (h3 : a.list ≠ p.list) : tyB args ps = false := by
  unfold tyB
  simp only [decide_eq_false_iff_not]
  intro e
  have := congrArg (fun l => l[k]?) e
  simp only [List.getElem?_map, h1, h2, Option.map_some] at this
  exact h3 (Option.some.inj this)
theorem longB_drop {l : List Vl} {k : Nat} (h : k < l.length) : longB (l.drop k) = ((l[k].list && decide (1000 < l[k].l.length)) || longB (l.drop (k + 1))) := by
  unfold longB; rw [List.drop_eq_getElem_cons h]; rfl
theorem RetS.err {w w' : World} (hb : Below w.heap.size w w') {n : Int} (hn : n ≠ 0) (tr : Bool) {o : OutT} (ho : o = .err n) {S0 : Nat → Prop} : RetS o tr S0 w (.returned (.tuple #[.agg #[.int .i64 0, .slice none 0 0, .bool false, .int .i64 0, .slice none 0 0, .slice none 0 0], .int .i64 n])) w' := ⟨hb, .inl ⟨n, ho, hn, rfl⟩⟩
theorem findF_some {lib : List Fn1} {s : ByteArray} (h : ¬ findF lib s 0 < 0) : ∃ (i : Nat) (fn : Fn1), findF lib s 0 = i ∧ lib[i]? = some fn := by
  rcases findF_range s lib 0 with e | ⟨i, i1, i2, _⟩
  · rw [e] at h; omega
  · exact ⟨i, lib[i], by rw [i2]; omega, List.getElem?_eq_getElem i1⟩
theorem validR_pos {lib : List Fn1} : 0 ≤ (validR lib).2 ∨ True := .inr trivial

set_option maxRecDepth 100000 in
set_option maxHeartbeats 2000000 in
theorem start_any (lib : List Fn1) (A : Option Addr) (cap : Nat) (name : ByteArray) (args : List Vl) (Aa : Option Addr) (ca : Nat) (F : Int) (tr : Bool) (S0 : Nat → Prop) (w : World) (hL : LibAt w A lib) (hF : LibFit lib) (hP : FewParams lib) (hN : FewNodes lib) (hV : VlsX w S0 Aa args) (hS0 : ∀ k, S0 k → k < w.heap.size) (hvl : ∀ v ∈ args, v.l.length ≤ 1000000) (hal : args.length ≤ 1000000) (hFu : F ≤ 900000) :
    Calls Try.prog 14 #[.slice A lib.length cap, .string name, .slice Aa args.length ca, .agg #[.slice A lib.length cap, .int .i64 F, .int .i64 0, .bool tr]] w (RetS (startR lib name args F) tr S0 w) := by
  have hl := hF.1
  have HS := Lib.hid (startR.eq_def lib name args F)
  have b2 := two_box w (Obj.cells #[.slice A lib.length cap, .int .i64 F, .int .i64 0, .bool tr] 61) (Obj.cells #[.int .i64 0, .slice none 0 0, .bool false, .int .i64 0, .slice none 0 0, .slice none 0 0] 50)
  have eb := (bx_new w #[.slice A lib.length cap, .int .i64 F, .int .i64 0, .bool tr] 61).below (below_box _ (Obj.cells #[.int .i64 0, .slice none 0 0, .bool false, .int .i64 0, .slice none 0 0, .slice none 0 0] 50))
  have rb := bx_new (w.alloc (Obj.cells #[.slice A lib.length cap, .int .i64 F, .int .i64 0, .bool tr] 61)) #[.int .i64 0, .slice none 0 0, .bool false, .int .i64 0, .slice none 0 0, .slice none 0 0] 50
  rw [show (w.alloc (Obj.cells #[.slice A lib.length cap, .int .i64 F, .int .i64 0, .bool tr] 61)).heap.size = w.heap.size + 1 by simp] at rb
  have HL := Lib.hid hL
  have HV := Lib.hid hV
  have HVL := Lib.hid hvl
  have HS0 := Lib.hid hS0
  clear hL hV hvl hS0
  go_enter Try.func14, Try.ntmps14
  go_wp2_with fail
  generalize World.alloc _ _ = W at b2 eb rb ⊢
  refine (valid_any lib A cap W (HL.out.mono b2) hF hP hN).mono ?_
  rintro e w3 ⟨rfl, hb3⟩
  have q3 := Lib.hid (below_step b2 b2.size hb3)
  have eb3 := eb.below hb3
  have rb3 := rb.below hb3
  clear hb3 b2 eb rb
  by_cases hv : (validR lib).2 = 0
  rotate_left
  · have hv' : ((validR lib).2 != 0) = true := by simpa using hv
    have HO := Lib.hid (HS.out.trans (if_pos hv))
    obtain ⟨⟨y0, y1, y2, y3, y4, y5⟩, x0, x1, x2, x3, x4, x5⟩ := rb3.six
    generalize (validR lib).2 = vv at *
    generalize (validR lib).1 = vw at *
    go_wp2_with fail
    have rbF := rb3.set6 (.int .i64 0) (.slice none 0 0) (.bool false) (.int .i64 0) (.slice none 0 0) (.slice none 0 0)
    have qF := (Fr.set6 w3 (w.heap.size + 1) (.int .i64 0) (.slice none 0 0) (.bool false) (.int .i64 0) (.slice none 0 0) (.slice none 0 0)).toBelow q3.out q3.out.size (fun k e => by omega)
    generalize World.setCell _ _ _ = WF at rbF qF ⊢
    obtain ⟨⟨s0, s1, s2, s3, s4, s5⟩, _⟩ := rbF.six
    exact bodyPost_ret (v := .tuple #[.agg #[.int .i64 0, .slice none 0 0, .bool false, .int .i64 0, .slice none 0 0, .slice none 0 0], .int .i64 3]) (by simp [results, Try.results14, go_sem, s0, s1, s2, s3, s4, s5]) rfl (RetS.err qF (by decide) tr HO.out)
  have HV0 := Lib.hid hv
  have HX := Lib.hid (libX_of HL.out hF hv)
  have HS1 := Lib.hid (HS.out.trans (if_neg (fun e => e hv)))
  rw [hv]
  generalize (validR lib).1 = vw at *
  clear hv HS
  go_wp2_with fail
  refine (find_any lib A cap name w3 (HL.out.mono q3.out) hl).mono ?_
  rintro e w4 ⟨rfl, hb4⟩
  have q4 := Lib.hid (below_step q3.out q3.out.size hb4)
  have eb4 := eb3.below hb4
  have rb4 := rb3.below hb4
  clear hb4 q3 eb3 rb3
  by_cases hf : findF lib name 0 < 0
  · have HO := Lib.hid (HS1.out.trans (if_pos hf))
    obtain ⟨⟨y0, y1, y2, y3, y4, y5⟩, x0, x1, x2, x3, x4, x5⟩ := rb4.six
    generalize findF lib name 0 = fi at *
    go_wp2_with fail
    have rbF := rb4.set6 (.int .i64 0) (.slice none 0 0) (.bool false) (.int .i64 0) (.slice none 0 0) (.slice none 0 0)
    have qF := (Fr.set6 w4 (w.heap.size + 1) (.int .i64 0) (.slice none 0 0) (.bool false) (.int .i64 0) (.slice none 0 0) (.slice none 0 0)).toBelow q4.out q4.out.size (fun k e => by omega)
    generalize World.setCell _ _ _ = WF at rbF qF ⊢
    obtain ⟨⟨s0, s1, s2, s3, s4, s5⟩, _⟩ := rbF.six
    exact bodyPost_ret (v := .tuple #[.agg #[.int .i64 0, .slice none 0 0, .bool false, .int .i64 0, .slice none 0 0, .slice none 0 0], .int .i64 21]) (by simp [results, Try.results14, go_sem, s0, s1, s2, s3, s4, s5]) rfl (RetS.err qF (by decide) tr HO.out)
  obtain ⟨fi, fn, hfi, hfn⟩ := findF_some hf
  have HS2 := Lib.hid (HS1.out.trans (if_neg hf))
  rw [hfi] at HS2 ⊢
  rw [Int.toNat_natCast, hfn] at HS2
  clear hf HS1
  obtain ⟨hfl, hget⟩ := List.getElem?_eq_some_iff.1 hfn
  obtain ⟨b, o, rfl, hfo⟩ := HL.out.at_ hfl
  have HFO := Lib.hid (show FnO w b (o + fi * 7) fn by rw [← hget]; exact hfo)
  obtain ⟨Ap, cp, hp1', hps⟩ := HFO.out.ps
  have HPS := Lib.hid hps
  have HP1 := Lib.hid hp1'
  have hp1 := below_cell q4.out hp1'
  have hbl : b < w4.heap.size := block_lt_of_cell hp1
  have r1 : (0 : Int) ≤ fi := by omega
  have r2 : (fi : Int) < lib.length := by omega
  have hpl : fn.params.length ≤ 1000 := HX.out.par fi fn hfn
  have HFN := Lib.hid hfn
  clear hfn hget hfo hps hp1' hfi
  by_cases hla : args.length = fn.params.length
  rotate_left
  · have HO := Lib.hid (HS2.out.trans (if_pos hla))
    have hn1 : ((args.length : Int) != fn.params.length) = true := bne_iff_ne.2 (by omega)
    obtain ⟨⟨y0, y1, y2, y3, y4, y5⟩, x0, x1, x2, x3, x4, x5⟩ := rb4.six
    clear hla
    go_wp2_with fail
    have rbF := rb4.set6 (.int .i64 0) (.slice none 0 0) (.bool false) (.int .i64 0) (.slice none 0 0) (.slice none 0 0)
    have qF := (Fr.set6 w4 (w.heap.size + 1) (.int .i64 0) (.slice none 0 0) (.bool false) (.int .i64 0) (.slice none 0 0) (.slice none 0 0)).toBelow q4.out q4.out.size (fun k e => by omega)
    generalize World.setCell _ _ _ = WF at rbF qF ⊢
    obtain ⟨⟨s0, s1, s2, s3, s4, s5⟩, _⟩ := rbF.six
    exact bodyPost_ret (v := .tuple #[.agg #[.int .i64 0, .slice none 0 0, .bool false, .int .i64 0, .slice none 0 0, .slice none 0 0], .int .i64 7]) (by simp [results, Try.results14, go_sem, s0, s1, s2, s3, s4, s5]) rfl (RetS.err qF (by decide) tr HO.out)
  have hn1 : ((args.length : Int) != fn.params.length) = false := by rw [hla]; simp
  have HLA := Lib.hid hla
  have HS3 := Lib.hid (HS2.out.trans (if_neg (fun e => e hla)))
  clear hla HS2
  go_wp2_with fail
  clear hn1 hp1
  go_loopw [43] (fun i wr => ∃ k : Nat, k ≤ args.length ∧ i = .int .i64 k ∧ Hid (Below w4.heap.size w4 wr) ∧ Hid (∀ j, j < k → ∃ a p, args[j]? = some a ∧ fn.params[j]? = some p ∧ a.list = p.list)) (fun i _ => args.length - (intOf i).toNat)
  case atStart => exact ⟨0, by omega, rfl, Below.refl _ _, fun j hj => by omega⟩
  case round =>
    obtain ⟨k, hk, rfl, hb, hall⟩ := hrel
    have qr := Lib.hid (below_step q4.out q4.out.size hb.out)
    by_cases hin : k < args.length
    · have hin' : k < fn.params.length := by rw [← HLA.out]; exact hin
      obtain ⟨ba', oa', A', c', rfl, _, d0, d1, d2, hi⟩ := (HV.out.le (X' := fun _ => False) (Le.of_fr (Fr.of_below qr.out (fun _ => False)) (fun _ _ e => e.elim) fun _ _ e => e.elim)) k _ (List.getElem?_eq_getElem hin)
      obtain ⟨bp, op, rfl, e0, e1⟩ := (HPS.out.mono qr.out).at_ hin'
      have g1 := Lib.hid (List.getElem?_eq_getElem hin)
      have g2 := Lib.hid (List.getElem?_eq_getElem hin')
      generalize args[k] = u at *
      generalize fn.params[k] = p at *
      have hp2 := below_cell qr.out HP1.out
      have hlt1 : ba' < wr.heap.size := block_lt_of_cell d0
      have hlt2 : bp < wr.heap.size := block_lt_of_cell e0
      have hlt3 : b < wr.heap.size := block_lt_of_cell hp2
      have rk1 : (0 : Int) ≤ k := by omega
      have rk2 : (k : Int) < args.length := by omega
      have rk3 : (k : Int) < fn.params.length := by omega
      have bb := below_box wr (Obj.cells #[.bool u.list, .int .i64 u.n, .slice A' u.l.length c'] 28)
      by_cases hup : u.list = p.list
      · have hall' := Lib.hid (fun j (hj : j < k + 1) => show ∃ a p, args[j]? = some a ∧ fn.params[j]? = some p ∧ a.list = p.list from by
          by_cases e : j = k
          · rw [e]; exact ⟨u, p, g1.out, g2.out, hup⟩
          · exact hall.out j (by omega))
        rw [← hup] at e1
        have hu1 : (u.list != u.list) = false := by simp
        clear hup hi
        go_wp2_with fail
        go_quiet (fail)
        go_wp2_with fail
        exact ⟨⟨k + 1, by omega, by go_num, below_drewN (below_step hb.out hb.out.size bb) _, hall'⟩, by simp [intOf]; omega⟩
      · have HO := Lib.hid (HS3.out.trans (if_pos (tyB_not g1.out g2.out hup)))
        have rbr := (rb4.below hb.out).below bb
        have q5 := below_step qr.out qr.out.size bb
        have hup2 : (u.list = true ∧ p.list = false) ∨ (u.list = false ∧ p.list = true) := by
          cases hu : u.list <;> cases hp : p.list <;> simp_all
        clear hup hi g1 g2
        rcases hup2 with ⟨hu, hp⟩ | ⟨hu, hp⟩
        all_goals
          rw [hu] at d0 bb rbr q5
          rw [hp] at e1
          clear hu hp
          go_wp2_with fail
          go_quiet (fail)
          generalize wr.alloc _ = V at rbr q5 ⊢
          have rbq := rbr.below (below_drewN (Below.refl V.heap.size V) nq)
          have q6 := Lib.hid (below_drewN q5 nq)
          generalize V.drewN nq = V2 at rbq q6 ⊢
          obtain ⟨⟨y0, y1, y2, y3, y4, y5⟩, x0, x1, x2, x3, x4, x5⟩ := rbq.six
          go_wp2_with fail
          have rbF := rbq.set6 (.int .i64 0) (.slice none 0 0) (.bool false) (.int .i64 0) (.slice none 0 0) (.slice none 0 0)
          have qF := (Fr.set6 V2 (w.heap.size + 1) (.int .i64 0) (.slice none 0 0) (.bool false) (.int .i64 0) (.slice none 0 0) (.slice none 0 0)).toBelow q6.out q6.out.size (fun k e => by omega)
          generalize World.setCell _ _ _ = WF at rbF qF ⊢
          obtain ⟨⟨s0, s1, s2, s3, s4, s5⟩, _⟩ := rbF.six
          exact bodyPost_ret (v := .tuple #[.agg #[.int .i64 0, .slice none 0 0, .bool false, .int .i64 0, .slice none 0 0, .slice none 0 0], .int .i64 7]) (by simp [results, Try.results14, go_sem, s0, s1, s2, s3, s4, s5]) rfl (RetS.err qF (by decide) tr HO.out)
    · obtain rfl : k = args.length := by omega
      have HS4 := Lib.hid (HS3.out.trans (if_neg (by rw [tyB_get HLA.out hall.out]; simp)))
      have ebr := eb4.below hb.out
      have rbr := rb4.below hb.out
      clear hall hb q4 eb4 rb4 HS3
      go_wp2_with fail
      obtain ⟨wo, rfl⟩ : ∃ wo : World, wo = wr := ⟨_, rfl⟩
      go_loopw [64] (fun i wr => ∃ k : Nat, k ≤ args.length ∧ i = .int .i64 k ∧ Hid (Below wo.heap.size wo wr) ∧ Hid (longB args = longB (args.drop k))) (fun i _ => args.length - (intOf i).toNat)
      case atStart => exact ⟨0, by omega, rfl, Below.refl _ _, rfl⟩
      case round =>
        obtain ⟨k, hk, rfl, hb, hlg⟩ := hrel
        have q5 := Lib.hid (below_step qr.out qr.out.size hb.out)
        by_cases hin : k < args.length
        · obtain ⟨ba', oa', A', c', rfl, _, d0, d1, d2, hi⟩ := (HV.out.le (X' := fun _ => False) (Le.of_fr (Fr.of_below q5.out (fun _ => False)) (fun _ _ e => e.elim) fun _ _ e => e.elim)) k _ (List.getElem?_eq_getElem hin)
          have HLG := Lib.hid (hlg.out.trans (longB_drop hin))
          generalize args[k] = u at *
          have hlt1 : ba' < wr.heap.size := block_lt_of_cell d0
          have rk1 : (0 : Int) ≤ k := by omega
          have rk2 : (k : Int) < args.length := by omega
          have bb := below_box wr (Obj.cells #[.bool u.list, .int .i64 u.n, .slice A' u.l.length c'] 28)
          obtain ⟨ul, un, us⟩ := u
          simp only at *
          clear hlg hi
          cases ul with
          | false =>
            have HN := Lib.hid (HLG.out.trans (show _ = longB (args.drop (k + 1)) by simp))
            clear HLG
            go_wp2_with fail
            exact ⟨⟨k + 1, by omega, by go_num, below_step hb.out hb.out.size bb, HN⟩, by simp [intOf]; omega⟩
          | true =>
            by_cases h1000 : 1000 < us.length
            · have hc : decide (1000 < us.length) = true := by simpa using h1000
              have HO := Lib.hid (HS4.out.trans (if_pos (HLG.out.trans (by rw [hc]; rfl))))
              have rbr2 := (rbr.below hb.out).below bb
              have q6 := Lib.hid (below_step q5.out q5.out.size bb)
              have hnl := rbr2.lt
              have hrl1 := (rbr.below hb.out).lt
              clear HLG
              obtain ⟨⟨y0, y1, y2, y3, y4, y5⟩, x0, x1, x2, x3, x4, x5⟩ := (rbr.below hb.out).six
              have rbw := rbr.below hb.out
              go_wp2_with fail
              have rbF := rbw.set6 (.int .i64 0) (.slice none 0 0) (.bool false) (.int .i64 0) (.slice none 0 0) (.slice none 0 0)
              have qF := (Fr.set6 wr (w.heap.size + 1) (.int .i64 0) (.slice none 0 0) (.bool false) (.int .i64 0) (.slice none 0 0) (.slice none 0 0)).toBelow q5.out q5.out.size (fun k e => by omega)
              generalize World.setCell _ _ _ = WF at rbF qF ⊢
              have bbF := below_box WF (Obj.cells #[.bool true, .int .i64 un, .slice A' us.length c'] 28)
              have rbG := rbF.below bbF
              have qG := below_step qF qF.size bbF
              generalize World.alloc _ _ = WG at rbG qG ⊢
              obtain ⟨⟨s0, s1, s2, s3, s4, s5⟩, _⟩ := rbG.six
              exact bodyPost_ret (v := .tuple #[.agg #[.int .i64 0, .slice none 0 0, .bool false, .int .i64 0, .slice none 0 0, .slice none 0 0], .int .i64 5]) (by simp [results, Try.results14, go_sem, s0, s1, s2, s3, s4, s5]) rfl (RetS.err qG (by decide) tr HO.out)
            · have hc : decide (1000 < us.length) = false := by simpa using h1000
              have HN := Lib.hid (HLG.out.trans (show _ = longB (args.drop (k + 1)) by rw [hc]; rfl))
              clear HLG
              go_wp2_with fail
              exact ⟨⟨k + 1, by omega, by go_num, below_step hb.out hb.out.size bb, HN⟩, by simp [intOf]; omega⟩
        · obtain rfl : k = args.length := by omega
          have HS5 := Lib.hid (HS4.out.trans (if_neg (by rw [hlg.out, List.drop_length]; simp [longB])))
          have eb5 := ebr.below hb.out
          have rb5 := rbr.below hb.out
          have hVr := HV.out.le (X' := fun k => S0 k ∨ k = w.heap.size ∨ k = w.heap.size + 1) (Le.of_fr (Fr.of_below q5.out (fun _ => False)) (fun _ _ e => e.elim) fun k hk e => by
            rcases e with e | e
            · exact e
            · omega)
          have hsl := rb5.lt
          have hcall := Lib.hid (call_of w (some ⟨b, o, none⟩) cap lib HX.out w.heap.size tr F.toNat (expr_all w (some ⟨b, o, none⟩) cap lib HX.out w.heap.size tr F.toNat) fi fn args Aa ca F 0 (fun k => S0 k ∨ k = w.heap.size ∨ k = w.heap.size + 1) wr HFN.out HLA.out hVr HVL.out q5.out (Nat.le_refl _) eb5 (.inr (.inl rfl)) (fun k e => by
            rcases e with e | e
            · have := HS0.out k e; omega
            · omega) (Nat.le_refl _) (by omega) (by omega))
          clear hlg HS4 hb ebr rbr eb5 hVr
          go_wp2_with fail
          refine hcall.out.mono ?_
          clear hcall
          rintro e w6 ⟨hf6, h6⟩
          have rb6 := rb5.fr hf6 (fun e => by omega)
          have q6 := Lib.hid (hf6.toBelow q5.out q5.out.size (fun k e => by omega))
          have hs6 := hf6.size
          obtain ⟨⟨y0, y1, y2, y3, y4, y5⟩, x0, x1, x2, x3, x4, x5⟩ := rb6.six
          rcases h6 with ⟨n, ho, hn0, rfl, _⟩ | ⟨t, f1, ho, htl, _, cs, htc, hnr, rfl⟩
          · have HO := Lib.hid (HS5.out.trans ho)
            go_wp2_with fail
            have rbF := rb6.set6 (.int .i64 0) (.slice none 0 0) (.bool false) (.int .i64 0) (.slice none 0 0) (.slice none 0 0)
            have qF := (Fr.set6 w6 (w.heap.size + 1) (.int .i64 0) (.slice none 0 0) (.bool false) (.int .i64 0) (.slice none 0 0) (.slice none 0 0)).toBelow q6.out q6.out.size (fun k e => by omega)
            generalize World.setCell _ _ _ = WF at rbF qF ⊢
            obtain ⟨⟨s0, s1, s2, s3, s4, s5⟩, _⟩ := rbF.six
            exact bodyPost_ret (v := .tuple #[.agg #[.int .i64 0, .slice none 0 0, .bool false, .int .i64 0, .slice none 0 0, .slice none 0 0], .int .i64 n]) (by simp [results, Try.results14, go_sem, s0, s1, s2, s3, s4, s5]) rfl (RetS.err qF hn0 tr HO.out)
          · have HO := Lib.hid (HS5.out.trans ho)
            obtain ⟨Aa', ca', AL', cL', Ac', cc', rfl, _, _, _⟩ := id htc
            have HTC := Lib.hid htc
            have HNR := Lib.hid hnr
            generalize hta : (trT tr t).args.length = na at *
            generalize htk : (trT tr t).calls.length = nk at *
            generalize htf : (trT tr t).func = tf at *
            generalize htb : (trT tr t).res.list = tb at *
            generalize htn : (trT tr t).res.n = tn at *
            generalize hts : (trT tr t).res.l.length = tl at *
            clear htc hnr ho HS5
            go_wp2_with fail
            have f7 := Fr.set6 w6 (w.heap.size + 1) (.int .i64 tf) (.slice Aa' na ca') (.bool tb) (.int .i64 tn) (.slice AL' tl cL') (.slice Ac' nk cc')
            have rbF := rb6.set6 (.int .i64 tf) (.slice Aa' na ca') (.bool tb) (.int .i64 tn) (.slice AL' tl cL') (.slice Ac' nk cc')
            have qF := f7.toBelow q6.out q6.out.size (fun k e => by omega)
            have tc7 := TrC.le (Le.of_fr (X' := S0) f7 (fun k _ e => .inr (.inr e)) fun _ _ e => .inl e) _ _ HTC.out
            obtain ⟨A9, m9, c9, e9, i9, n9⟩ := HNR.out
            have n10 := fun e => (n9 e).le (Le.of_nw (w := w) f7 (fun k _ e => .inl (by omega)) (fun k _ e => .inl (by omega)) (fun k e => .inr e))
            have i10 := i9.le (X' := fun k => k < w.heap.size) (Le.of_fr f7 (fun k _ e => by show k < wr.heap.size; omega) fun k _ e => (show k < wr.heap.size from by have : k < w.heap.size := e; omega))
            generalize World.setCell _ _ _ = WF at rbF qF tc7 i10 n10 ⊢
            obtain ⟨⟨s0, s1, s2, s3, s4, s5⟩, _⟩ := rbF.six
            exact bodyPost_ret (v := .tuple #[.agg #[.int .i64 tf, .slice Aa' na ca', .bool tb, .int .i64 tn, .slice AL' tl cL', .slice Ac' nk cc'], .int .i64 0]) (by simp [results, Try.results14, go_sem, s0, s1, s2, s3, s4, s5]) rfl ⟨qF, .inr ⟨t, f1, HO.out, htl, _, tc7, ⟨A9, m9, c9, e9, i10, n10⟩, rfl⟩⟩

end Go.Proofs.Ytoankdaddgjnlaa

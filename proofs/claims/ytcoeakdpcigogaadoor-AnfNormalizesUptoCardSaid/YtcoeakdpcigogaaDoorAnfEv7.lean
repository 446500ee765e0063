/-
  anf.Eval.
  What validity gives (plain): every bind has the arguments that its operation needs.
  The law's example, plainly.
-/
import Derived.Test.YtcoeakdpcigogaaDoorAnfEv4
import Derived.Test.YtcoeakdpcigogaaDoorAnfNz
namespace Go.Proofs.YtcoeakdpcigogaaDoor
open Go.ChangeShapes Go.WideShapes Go.ChangeAt Go.RowKit Go.Sort Go.Maps

def tyA : List Vl → List Pm → Bool
  | v :: vs, p :: ps => if v.list = p.list then tyA vs ps else false
  | _, _ => true
def longA (l : List Vl) : Bool := l.any fun v => v.list && decide (1000 < v.l.length)
def aEval (ap : Int → Int → Int → Int × Int) (lib : List Af) (name : ByteArray) (args : List Vl) (F : Int) : Int × Vl :=
  if libB lib = false then (3, zeroV)
  else match findA lib name with
    | none => (21, zeroV)
    | some g =>
      if args.length ≠ g.params.length then (7, zeroV)
      else if tyA args g.params = false then (7, zeroV)
      else if longA args = true then (5, zeroV)
      else match aCall (aRun ap lib F.toNat) 0 g args F.toNat with
        | .err e => (e, zeroV)
        | .ok v _ => (0, cln v)
def RetEv (r : Int × Vl) (w : World) (e : Ending) (w' : World) : Prop := Below w.heap.size w w' ∧ r.2.l.length ≤ 1000000 ∧ ∃ A c, e = .returned (.tuple #[.agg #[.bool r.2.list, .int .i64 r.2.n, .slice A r.2.l.length c], .int .i64 r.1]) ∧ IntsAt w' A r.2.l
theorem ev_early {w wX : World} (hb : Below w.heap.size w wX) (hx : Bx wX w.heap.size #[.bool false, .int .i64 0, .slice none 0 0]) {r : Int × Vl} {code : Int} (hr : r = (code, zeroV)) : RetEv r w (.returned (.tuple #[.agg #[.bool false, .int .i64 0, .slice none 0 0], .int .i64 code])) (((wX.setCell ⟨w.heap.size, 0, none⟩ (.bool false)).setCell ⟨w.heap.size, 1, none⟩ (.int .i64 0)).setCell ⟨w.heap.size, 2, none⟩ (.slice none 0 0)) ∧ Bx (((wX.setCell ⟨w.heap.size, 0, none⟩ (.bool false)).setCell ⟨w.heap.size, 1, none⟩ (.int .i64 0)).setCell ⟨w.heap.size, 2, none⟩ (.slice none 0 0)) w.heap.size #[.bool false, .int .i64 0, .slice none 0 0] := by
  subst hr
  exact ⟨⟨(Fr.set3 wX w.heap.size _ _ _).toBelow hb hb.size (fun j e => by have e' : j = w.heap.size := e; omega), by simp [zeroV], none, 0, rfl, fun k x hk => by simp [zeroV] at hk⟩, hx.set3 _ _ _⟩
theorem tyA_step {args : List Vl} {ps : List Pm} {k : Nat} (h1 : k < args.length) (h2 : k < ps.length) : tyA (args.drop k) (ps.drop k) = if args[k].list = ps[k].list then tyA (args.drop (k + 1)) (ps.drop (k + 1)) else false := by
  rw [List.drop_eq_getElem_cons h1, List.drop_eq_getElem_cons h2, tyA]
theorem longA_step {args : List Vl} {k : Nat} (h1 : k < args.length) : longA (args.drop k) = ((args[k].list && decide (1000 < args[k].l.length)) || longA (args.drop (k + 1))) := by
  unfold longA
  rw [List.drop_eq_getElem_cons h1, List.any_cons]

set_option maxRecDepth 100000 in
set_option maxHeartbeats 8000000 in
theorem aEval_any {w : World} {A : Option Addr} {lib : List Af} (cap : Nat) (hL : AfsAt w A lib) (hfit : ∀ g ∈ lib, AfFit g) (hnm : ∀ g ∈ lib, g.name.size ≤ 9223372036854775807) (hln : lib.length ≤ 1000) (har : libB lib = true → ∀ g ∈ lib, ∀ b ∈ g.body, ArB lib b) (name : ByteArray) (Al : Option Addr) (args : List Vl) (cl : Nat) (hV : VlsX w (fun _ => False) Al args) (hvl : ∀ v ∈ args, v.l.length ≤ 1000000) (hal : args.length ≤ 1000000) (F : Int) (hF : ∀ g, findA lib name = some g → args.length = g.params.length → tyA args g.params = true → longA args = false → F ≤ 1000000) :
    Calls Tryd.prog 19 #[.slice A lib.length cap, .string name, .slice Al args.length cl, .int .i64 F] w (RetEv (aEval apR lib name args F) w) := by
  have HBR := Lib.hid (below_box w (Obj.cells #[.bool false, .int .i64 0, .slice none 0 0] 46))
  have HRR := Lib.hid (bx_new w #[.bool false, .int .i64 0, .slice none 0 0] 46)
  have HSR := Lib.hid (show (w.alloc (Obj.cells #[.bool false, .int .i64 0, .slice none 0 0] 46)).heap.size = w.heap.size + 1 by simp)
  have HEQ := Lib.hid (aEval.eq_def apR lib name args F)
  have HAV := Lib.hid (avalid_any lib A cap _ (hL.below HBR.out) hfit hnm (by omega))
  have HL := Lib.hid (And.intro hL (And.intro hfit (And.intro hnm hln)))
  have HAR := Lib.hid har
  have HV := Lib.hid (And.intro hV hvl)
  have HFU := Lib.hid hF
  clear hL hfit hnm har hV hvl hF
  go_enter Tryd.func19, Tryd.ntmps19
  go_upto_region 1 with fail
  generalize w.alloc _ = W at HBR HRR HSR HAV ⊢
  go_wp2_with fail
  refine HAV.out.mono ?_
  clear HAV
  rintro e w1 ⟨rfl, hb1⟩
  have HB1 := Lib.hid (below_step HBR.out HBR.out.size hb1)
  have HR1 := Lib.hid (HRR.out.below hb1)
  clear hb1
  cases hlb : libB lib with
  | false =>
    have HE := Lib.hid (ev_early (r := aEval apR lib name args F) HB1.out HR1.out (HEQ.out.trans (if_pos hlb)))
    obtain ⟨y0, y1, y2, f0, f1, f2⟩ := Bx.three HR1.out
    have hly := HR1.out.lt
    clear hlb
    go_wp2_with fail
    clear y0 y1 y2 f0 f1 f2
    generalize World.setCell _ _ _ = W8 at HE ⊢
    obtain ⟨x0, x1, x2, _⟩ := Bx.three HE.out.2
    exact bodyPost_ret (v := .tuple #[.agg #[.bool false, .int .i64 0, .slice none 0 0], .int .i64 3]) (by simp [results, Tryd.results19, go_sem, x0, x1, x2]) rfl HE.out.1
  | true =>
    have HEQ2 := Lib.hid (HEQ.out.trans (if_neg (fun h => by rw [hlb] at h; cases h)))
    have HOK := Lib.hid (show EcOk w A lib from ⟨HL.out.1, HL.out.2.1, HL.out.2.2.1, HAR.out hlb, HL.out.2.2.2⟩)
    have HFI := Lib.hid (afind_any HB1.out HL.out.1 cap name (by omega))
    clear hlb HEQ HAR
    go_wp2_with fail
    refine HFI.out.mono ?_
    clear HFI
    rintro e w2 ⟨hb2, hfr⟩
    have HB2 := Lib.hid (below_step HB1.out HB1.out.size hb2)
    have HR2 := Lib.hid (HR1.out.below hb2)
    clear hb2
    rcases hfr with ⟨hfn, rfl⟩ | ⟨g, cs, hfn, rfl, hcs⟩
    · have HBF := Lib.hid (below_box w2 (Obj.cells #[.string ⟨#[]⟩, .slice none 0 0, .bool false, .slice none 0 0, .slice none 0 0, .string ⟨#[]⟩] 39))
      have HE := Lib.hid (ev_early (r := aEval apR lib name args F) (code := 21) (below_step HB2.out HB2.out.size HBF.out) (HR2.out.below HBF.out) (by rw [HEQ2.out, hfn]))
      have HR3 := Lib.hid (HR2.out.below HBF.out)
      clear hfn
      go_upto_region 4 with fail
      generalize w2.alloc _ = W3 at HBF HE HR3 ⊢
      obtain ⟨y0, y1, y2, f0, f1, f2⟩ := Bx.three HR3.out
      have hly := HR3.out.lt
      go_wp2_with fail
      clear y0 y1 y2 f0 f1 f2
      generalize World.setCell _ _ _ = W8 at HE ⊢
      obtain ⟨x0, x1, x2, _⟩ := Bx.three HE.out.2
      exact bodyPost_ret (v := .tuple #[.agg #[.bool false, .int .i64 0, .slice none 0 0], .int .i64 21]) (by simp [results, Tryd.results19, go_sem, x0, x1, x2]) rfl HE.out.1
    · have HEQ3 := Lib.hid (show aEval apR lib name args F = if args.length ≠ g.params.length then (7, zeroV)
          else if tyA args g.params = false then (7, zeroV)
          else if longA args = true then (5, zeroV)
          else match aCall (aRun apR lib F.toNat) 0 g args F.toNat with
            | .err e => (e, zeroV)
            | .ok v _ => (0, cln v) by rw [HEQ2.out, hfn])
      have HG := Lib.hid (List.mem_of_find?_eq_some hfn)
      have HCS := Lib.hid hcs
      obtain ⟨Ap, cp, Aτ, cτ, Ab, cb, rfl, hps, _⟩ := hcs
      have HPS := Lib.hid hps.1
      have HBF := Lib.hid (below_box w2 (Obj.cells #[.string g.name, .slice Ap g.params.length cp, .bool g.list, .slice Aτ g.temps.length cτ, .slice Ab g.body.length cb, .string g.result] 39))
      have HXF := Lib.hid (bx_new w2 #[.string g.name, .slice Ap g.params.length cp, .bool g.list, .slice Aτ g.temps.length cτ, .slice Ab g.body.length cb, .string g.result] 39)
      have HB3 := Lib.hid (below_step HB2.out HB2.out.size HBF.out)
      have HR3 := Lib.hid (HR2.out.below HBF.out)
      have hpl := (HL.out.2.1 g HG.out).pl
      have HFN := Lib.hid hfn
      clear hfn hps HEQ2
      go_upto_region 4 with fail
      generalize w2.alloc _ = W3 at HBF HXF HB3 HR3 ⊢
      obtain ⟨a0, a1, a2, a3, a4, a5⟩ := (Bx.six' HXF.out).1
      have hlx := HXF.out.lt
      obtain ⟨y0, y1, y2, f0, f1, f2⟩ := Bx.three HR3.out
      have hly := HR3.out.lt
      by_cases hle : args.length = g.params.length
      rotate_left
      · have HE := Lib.hid (ev_early (r := aEval apR lib name args F) (code := 7) HB3.out HR3.out (HEQ3.out.trans (if_pos hle)))
        have h1 : ((args.length : Int) != g.params.length) = true := bne_iff_ne.2 (by omega)
        clear hle
        go_wp2_with fail
        clear y0 y1 y2 f0 f1 f2 a0 a1 a2 a3 a4 a5
        generalize World.setCell _ _ _ = W8 at HE ⊢
        obtain ⟨x0, x1, x2, _⟩ := Bx.three HE.out.2
        exact bodyPost_ret (v := .tuple #[.agg #[.bool false, .int .i64 0, .slice none 0 0], .int .i64 7]) (by simp [results, Tryd.results19, go_sem, x0, x1, x2]) rfl HE.out.1
      have HEQ4 := Lib.hid (HEQ3.out.trans (if_neg (fun h => h hle)))
      have h1 : ((args.length : Int) != g.params.length) = false := by rw [hle]; simp
      have HLE := Lib.hid hle
      clear hle HEQ3
      go_wp2_with fail
      clear y0 y1 y2 f0 f1 f2 a0 a1 a2 a3 a4 a5 hlx hly h1
      go_loopw [41] (fun i wr => ∃ k : Nat, k ≤ args.length ∧ i = .int .i64 k ∧ Hid (Below W3.heap.size W3 wr) ∧ Hid (tyA args g.params = tyA (args.drop k) (g.params.drop k))) (fun i _ => args.length - (intOf i).toNat)
      case atStart => exact ⟨0, by omega, rfl, Lib.hid (Below.refl _ _), Lib.hid (by rw [List.drop_zero, List.drop_zero])⟩
      case round =>
        obtain ⟨k, hk, rfl, hbe, hE⟩ := hrel
        have HBr := Lib.hid (below_step HB3.out HB3.out.size hbe.out)
        by_cases hin : k < args.length
        · have hin' : k < g.params.length := by rw [← HLE.out]; exact hin
          have HST := Lib.hid (hE.out.trans (tyA_step hin hin'))
          obtain ⟨ba, oa, A', c', rfl, _, d0, d1, d2, _⟩ := HV.out.1 k _ (List.getElem?_eq_getElem hin)
          obtain ⟨b1, o1, rfl, c0, c1⟩ := (HPS.out.mono HBr.out).at_ hin'
          generalize args[k] = u at *
          generalize g.params[k] = p at *
          have d0' := below_cell HBr.out d0
          have d1' := below_cell HBr.out d1
          have d2' := below_cell HBr.out d2
          have HBU := Lib.hid (below_box wr (Obj.cells #[.bool u.list, .int .i64 u.n, .slice A' u.l.length c'] 46))
          have HXU := Lib.hid (bx_new wr #[.bool u.list, .int .i64 u.n, .slice A' u.l.length c'] 46)
          have HRr := Lib.hid ((HR3.out.below hbe.out).below HBU.out)
          have HXr := Lib.hid ((HXF.out.below hbe.out).below HBU.out)
          have HBE := Lib.hid (below_step hbe.out hbe.out.size HBU.out)
          have HBW := Lib.hid (below_step HBr.out HBr.out.size HBU.out)
          have c0' := below_cell HBU.out c0
          have c1' := below_cell HBU.out c1
          have hlt := block_lt_of_cell d0'
          have rk1 : (0 : Int) ≤ k := by omega
          have rk2 : (k : Int) < g.params.length := by omega
          clear hbe hE d0 d1 d2 c0 c1
          go_upto_region 11 with fail
          clear d0' d1' d2' hlt
          generalize wr.alloc _ = W4 at HBU HXU HRr HXr HBE HBW c0' c1' ⊢
          obtain ⟨u0, u1, u2, _⟩ := Bx.three HXU.out
          have hlu := HXU.out.lt
          obtain ⟨a0, a1, a2, a3, a4, a5⟩ := (Bx.six' HXr.out).1
          have hlx := HXr.out.lt
          have hlc := block_lt_of_cell c0'
          by_cases htt : u.list = p.list
          · have h1 : (u.list == p.list) = true := by rw [htt]; simp
            have HST2 := Lib.hid (HST.out.trans (if_pos htt))
            clear htt
            go_region
            go_wp2_with fail
            exact ⟨⟨k + 1, by omega, by go_num, Lib.hid (belowDrawnP HBE.out), HST2⟩, by simp [intOf]; omega⟩
          · have h1 : (u.list == p.list) = false := beq_eq_false_iff_ne.2 htt
            have HE := Lib.hid (show RetEv (aEval apR lib name args F) w (.returned (.tuple #[.agg #[.bool false, .int .i64 0, .slice none 0 0], .int .i64 7])) (((W4.setCell ⟨w.heap.size, 0, none⟩ (.bool false)).setCell ⟨w.heap.size, 1, none⟩ (.int .i64 0)).setCell ⟨w.heap.size, 2, none⟩ (.slice none 0 0)).drew ∧ Bx (((W4.setCell ⟨w.heap.size, 0, none⟩ (.bool false)).setCell ⟨w.heap.size, 1, none⟩ (.int .i64 0)).setCell ⟨w.heap.size, 2, none⟩ (.slice none 0 0)).drew w.heap.size #[.bool false, .int .i64 0, .slice none 0 0] from ev_early (wX := W4.drew) (belowDrawnP HBW.out) (HRr.out.below (belowDrawnP (Below.refl _ _))) (HEQ4.out.trans (if_pos (HST.out.trans (if_neg htt)))))
            obtain ⟨y0, y1, y2, f0, f1, f2⟩ := Bx.three HRr.out
            have hly := HRr.out.lt
            clear htt
            go_region
            go_wp2_with fail
            clear y0 y1 y2 f0 f1 f2
            generalize World.drew _ = W8 at HE ⊢
            obtain ⟨x0, x1, x2, _⟩ := Bx.three HE.out.2
            exact bodyPost_ret (v := .tuple #[.agg #[.bool false, .int .i64 0, .slice none 0 0], .int .i64 7]) (by simp [results, Tryd.results19, go_sem, x0, x1, x2]) rfl HE.out.1
        · obtain rfl : k = args.length := by omega
          have HTY := Lib.hid (show tyA args g.params = true by rw [hE.out, List.drop_length]; unfold tyA; cases g.params.drop args.length <;> rfl)
          have HEQ5 := Lib.hid (HEQ4.out.trans (if_neg (fun h => by rw [HTY.out] at h; cases h)))
          obtain ⟨W5, rfl⟩ : ∃ y, y = wr := ⟨_, rfl⟩
          have HR5 := Lib.hid (HR3.out.below hbe.out)
          have HX5 := Lib.hid (HXF.out.below hbe.out)
          have HBO := Lib.hid HBr.out
          clear hbe hE HEQ4
          go_wp2_with fail
          go_loopw [59] (fun i wr => ∃ k : Nat, k ≤ args.length ∧ i = .int .i64 k ∧ Hid (Below W5.heap.size W5 wr) ∧ Hid (longA args = longA (args.drop k))) (fun i _ => args.length - (intOf i).toNat)
          case atStart => exact ⟨0, by omega, rfl, Lib.hid (Below.refl _ _), Lib.hid (by rw [List.drop_zero])⟩
          case round =>
            obtain ⟨k, hk, rfl, hbe, hE⟩ := hrel
            have HBr := Lib.hid (below_step HBO.out HBO.out.size hbe.out)
            by_cases hin : k < args.length
            · have HST := Lib.hid (hE.out.trans (longA_step hin))
              obtain ⟨ba, oa, A', c', rfl, _, d0, d1, d2, _⟩ := HV.out.1 k _ (List.getElem?_eq_getElem hin)
              generalize args[k] = u at *
              have d0' := below_cell HBr.out d0
              have d1' := below_cell HBr.out d1
              have d2' := below_cell HBr.out d2
              have HBU := Lib.hid (below_box wr (Obj.cells #[.bool u.list, .int .i64 u.n, .slice A' u.l.length c'] 46))
              have HXU := Lib.hid (bx_new wr #[.bool u.list, .int .i64 u.n, .slice A' u.l.length c'] 46)
              have HRr := Lib.hid ((HR5.out.below hbe.out).below HBU.out)
              have HBE := Lib.hid (below_step hbe.out hbe.out.size HBU.out)
              have HBW := Lib.hid (below_step HBr.out HBr.out.size HBU.out)
              have hlt := block_lt_of_cell d0'
              have rk1 : (0 : Int) ≤ k := by omega
              clear hbe hE d0 d1 d2
              go_upto_region 17 with fail
              clear d0' d1' d2' hlt
              generalize wr.alloc _ = W6 at HBU HXU HRr HBE HBW ⊢
              obtain ⟨u0, u1, u2, _⟩ := Bx.three HXU.out
              have hlu := HXU.out.lt
              cases hll : u.list && decide (1000 < u.l.length) with
              | true =>
                have HE := Lib.hid (ev_early (wX := W6) (r := aEval apR lib name args F) (code := 5) HBW.out HRr.out (HEQ5.out.trans (if_pos (by rw [HST.out, hll]; rfl))))
                obtain ⟨hl1, hl2⟩ : u.list = true ∧ 1000 < u.l.length := by simpa using hll
                rw [hl1] at u0
                obtain ⟨y0, y1, y2, f0, f1, f2⟩ := Bx.three HRr.out
                have hly := HRr.out.lt
                clear hll hl1
                go_wp2_with fail
                clear y0 y1 y2 f0 f1 f2
                generalize World.setCell _ _ _ = W8 at HE ⊢
                obtain ⟨x0, x1, x2, _⟩ := Bx.three HE.out.2
                exact bodyPost_ret (v := .tuple #[.agg #[.bool false, .int .i64 0, .slice none 0 0], .int .i64 5]) (by simp [results, Tryd.results19, go_sem, x0, x1, x2]) rfl HE.out.1
              | false =>
                have HST2 := Lib.hid (show longA args = longA (args.drop (k + 1)) by rw [HST.out, hll]; rfl)
                cases hul : u.list with
                | false =>
                  rw [hul] at u0
                  clear hll hul
                  go_wp2_with fail
                  exact ⟨⟨k + 1, by omega, by go_num, HBE, HST2⟩, by simp [intOf]; omega⟩
                | true =>
                  have hnl : ¬ (1000 < u.l.length) := by rw [hul] at hll; simpa using hll
                  rw [hul] at u0
                  clear hll hul
                  go_wp2_with fail
                  exact ⟨⟨k + 1, by omega, by go_num, HBE, HST2⟩, by simp [intOf]; omega⟩
            · obtain rfl : k = args.length := by omega
              have HLG := Lib.hid (show longA args = false by rw [hE.out, List.drop_length]; rfl)
              have HEQ6 := Lib.hid (HEQ5.out.trans (if_neg (fun h => by rw [HLG.out] at h; cases h)))
              have hF := HFU.out g HFN.out HLE.out HTY.out HLG.out
              have HBV := Lib.hid (below_box wr (Obj.cells #[.slice A lib.length cap, .int .i64 F, .int .i64 0] 88))
              have HXV := Lib.hid (bx_new wr #[.slice A lib.length cap, .int .i64 F, .int .i64 0] 88)
              have HBW := Lib.hid (below_step HBr.out HBr.out.size HBV.out)
              have HR6 := Lib.hid ((HR5.out.below hbe.out).below HBV.out)
              have HX6 := Lib.hid ((HX5.out.below hbe.out).below HBV.out)
              have HCC := Lib.hid (ecall_any (cap := cap) (bv := wr.heap.size) (d := F.toNat) HOK.out (fun k => k = wr.heap.size) 0 g args F.toNat F _ _ Al cl ⟨HBW.out, HXV.out, HBr.out.size, rfl, Nat.le_refl _, hF, by omega⟩ rfl (fun j e => by have e' : j = wr.heap.size := e; have := HXV.out.lt; omega) HG.out HLE.out HV.out.2 HCS.out (VlsX.le HV.out.1 (Le.of_fr (Fr.of_below HBW.out fun _ => False) (fun _ _ e => e.elim) fun j hj e => by have e' : j = wr.heap.size := e; have := HBr.out.size; omega)) (by omega))
              have HLW := Lib.hid (show w.heap.size < wr.heap.size by have := HR5.out.lt; have := hbe.out.size; omega)
              clear hbe hE HEQ5
              go_upto_region 21 with fail
              generalize wr.alloc _ = W6 at HBV HXV HBW HR6 HX6 HCC ⊢
              obtain ⟨a0, a1, a2, a3, a4, a5⟩ := (Bx.six' HX6.out).1
              have hlx := HX6.out.lt
              go_wp2_with fail
              refine HCC.out.mono ?_
              clear HCC a0 a1 a2 a3 a4 a5 hlx
              rintro e w6 ⟨hf6, F6, hev6, hr6⟩
              have HB6 := Lib.hid (show Below w.heap.size w w6 from hf6.toBelow HBW.out HBW.out.size (fun j e => by have e' : j = wr.heap.size := e; have := HLW.out; omega))
              have HR7 := Lib.hid (HR6.out.fr hf6 (fun e => by have e' : w.heap.size = wr.heap.size := e; have := HLW.out; omega))
              clear hf6 hev6
              rcases hr6 with ⟨c, b6, n6, A6, m6, c6, q1, q2, rfl⟩ | ⟨v6, f6, A6, c6, q1, q2, q3, rfl, q4, q5⟩
              · have HBZ := Lib.hid (below_box w6 (Obj.cells #[.bool b6, .int .i64 n6, .slice A6 m6 c6] 46))
                have HE := Lib.hid (ev_early (r := aEval apR lib name args F) (code := c) (below_step HB6.out HB6.out.size HBZ.out) (HR7.out.below HBZ.out) (by rw [HEQ6.out, q1]))
                have HR8 := Lib.hid (HR7.out.below HBZ.out)
                have hcb : (c != 0) = true := bne_iff_ne.2 q2
                clear q1 q2
                go_upto_region 22 with fail
                generalize w6.alloc _ = W7 at HBZ HE HR8 ⊢
                obtain ⟨y0, y1, y2, f0, f1, f2⟩ := Bx.three HR8.out
                have hly := HR8.out.lt
                go_wp2_with fail
                clear y0 y1 y2 f0 f1 f2
                generalize World.setCell _ _ _ = W8 at HE ⊢
                obtain ⟨x0, x1, x2, _⟩ := Bx.three HE.out.2
                exact bodyPost_ret (v := .tuple #[.agg #[.bool false, .int .i64 0, .slice none 0 0], .int .i64 c]) (by simp [results, Tryd.results19, go_sem, x0, x1, x2]) rfl HE.out.1
              · have HEQ7 := Lib.hid (show aEval apR lib name args F = (0, cln v6) by rw [HEQ6.out, q1])
                have HBZ := Lib.hid (below_box w6 (Obj.cells #[.bool v6.list, .int .i64 v6.n, .slice A6 v6.l.length c6] 46))
                have HXZ := Lib.hid (bx_new w6 #[.bool v6.list, .int .i64 v6.n, .slice A6 v6.l.length c6] 46)
                have HB7 := Lib.hid (below_step HB6.out HB6.out.size HBZ.out)
                have HR8 := Lib.hid (HR7.out.below HBZ.out)
                have HIA := Lib.hid (q4.at_.mono HBZ.out)
                clear q1 q2 q4
                go_upto_region 22 with fail
                generalize w6.alloc _ = W7 at HBZ HXZ HB7 HR8 HIA ⊢
                obtain ⟨u0, u1, u2, _⟩ := Bx.three HXZ.out
                have hlu := HXZ.out.lt
                obtain ⟨y0, y1, y2, f0, f1, f2⟩ := Bx.three HR8.out
                have hly := HR8.out.lt
                cases hvl : v6.list with
                | false =>
                  have HC := Lib.hid (show cln v6 = ⟨false, v6.n, []⟩ by unfold cln; rw [hvl]; rfl)
                  have HE := Lib.hid (show RetEv (aEval apR lib name args F) w (.returned (.tuple #[.agg #[.bool false, .int .i64 v6.n, .slice none 0 0], .int .i64 0])) (((W7.setCell ⟨w.heap.size, 0, none⟩ (.bool false)).setCell ⟨w.heap.size, 1, none⟩ (.int .i64 v6.n)).setCell ⟨w.heap.size, 2, none⟩ (.slice none 0 0)) ∧ Bx (((W7.setCell ⟨w.heap.size, 0, none⟩ (.bool false)).setCell ⟨w.heap.size, 1, none⟩ (.int .i64 v6.n)).setCell ⟨w.heap.size, 2, none⟩ (.slice none 0 0)) w.heap.size #[.bool false, .int .i64 v6.n, .slice none 0 0] from ⟨⟨(Fr.set3 W7 w.heap.size _ _ _).toBelow HB7.out HB7.out.size (fun j e => by have e' : j = w.heap.size := e; omega), by rw [HEQ7.out, HC.out]; simp, none, 0, by rw [HEQ7.out, HC.out]; rfl, by rw [HEQ7.out, HC.out]; exact fun k x hk => by simp at hk⟩, HR8.out.set3 _ _ _⟩)
                  rw [hvl] at u0
                  clear hvl
                  go_wp2_with fail
                  clear y0 y1 y2 f0 f1 f2 u0 u1 u2
                  generalize World.setCell _ _ _ = W8 at HE ⊢
                  obtain ⟨x0, x1, x2, _⟩ := Bx.three HE.out.2
                  exact bodyPost_ret (v := .tuple #[.agg #[.bool false, .int .i64 v6.n, .slice none 0 0], .int .i64 0]) (by simp [results, Tryd.results19, go_sem, x0, x1, x2]) rfl HE.out.1
                | true =>
                  have HC := Lib.hid (show cln v6 = ⟨true, 0, v6.l⟩ by unfold cln; rw [hvl]; rfl)
                  have HCL := Lib.hid (cloneI_any v6.l A6 c6 W7 HIA.out q5)
                  rw [hvl] at u0
                  clear hvl
                  go_wp2_with fail
                  refine HCL.out.mono ?_
                  clear HCL y0 y1 y2 f0 f1 f2 u0 u1 u2 hlu hly
                  rintro e w9 ⟨A9, c9, rfl, hi9, hb9⟩
                  have HR9 := Lib.hid (HR8.out.below hb9)
                  have HE := Lib.hid (show RetEv (aEval apR lib name args F) w (.returned (.tuple #[.agg #[.bool true, .int .i64 0, .slice A9 v6.l.length c9], .int .i64 0])) (((w9.setCell ⟨w.heap.size, 0, none⟩ (.bool true)).setCell ⟨w.heap.size, 1, none⟩ (.int .i64 0)).setCell ⟨w.heap.size, 2, none⟩ (.slice A9 v6.l.length c9)) ∧ Bx (((w9.setCell ⟨w.heap.size, 0, none⟩ (.bool true)).setCell ⟨w.heap.size, 1, none⟩ (.int .i64 0)).setCell ⟨w.heap.size, 2, none⟩ (.slice A9 v6.l.length c9)) w.heap.size #[.bool true, .int .i64 0, .slice A9 v6.l.length c9] from
                    ⟨⟨(Fr.set3 w9 w.heap.size _ _ _).toBelow (below_step HB7.out HB7.out.size hb9) (by have := HB7.out.size; have := hb9.size; omega) (fun j e => by have e' : j = w.heap.size := e; omega), by rw [HEQ7.out, HC.out]; exact q5, A9, c9, by rw [HEQ7.out, HC.out], by rw [HEQ7.out, HC.out]; exact (hi9.2.le (X' := fun _ => False) (Le.of_fr (Fr.set3 w9 w.heap.size _ _ _) (fun j hj e => by have e' : j = w.heap.size := e; have h1 := HB7.out.size; have h2 := HR8.out.lt; show Nw W7 w9 j; unfold Nw; omega) (fun _ _ e => e.elim))).at_⟩, HR9.out.set3 _ _ _⟩)
                  obtain ⟨y0, y1, y2, f0, f1, f2⟩ := Bx.three HR9.out
                  have hly := HR9.out.lt
                  clear hi9 hb9
                  go_wp2_with fail
                  clear y0 y1 y2 f0 f1 f2
                  generalize World.setCell _ _ _ = W8 at HE ⊢
                  obtain ⟨x0, x1, x2, _⟩ := Bx.three HE.out.2
                  exact bodyPost_ret (v := .tuple #[.agg #[.bool true, .int .i64 0, .slice A9 v6.l.length c9], .int .i64 0]) (by simp [results, Tryd.results19, go_sem, x0, x1, x2]) rfl HE.out.1

end Go.Proofs.YtcoeakdpcigogaaDoor

namespace Go.Proofs.YtcoeakdpcigogaaDoor

theorem byN_find {l : List Af} (hn : (l.map Af.name).Nodup) (s : ByteArray) : byN l s = findA l s := by
  unfold byN
  have key : ∀ (l : List Af) (e : ByteArray → Option Af), (l.map Af.name).Nodup → l.foldl (fun e f => fun t => if t = f.name then some f else e t) e s = match findA l s with
      | some f => some f
      | none => e s := by
    intro l
    induction l with
    | nil => intro e _; rfl
    | cons x r ih =>
      intro e hn
      rw [List.map_cons, List.nodup_cons] at hn
      rw [List.foldl_cons, ih _ hn.2]
      unfold findA
      rw [List.find?_cons]
      by_cases h : x.name = s
      · rw [decide_eq_true h]
        cases hf : r.find? (fun f => decide (f.name = s)) with
        | none => dsimp only; rw [if_pos h.symm]
        | some g =>
          have h1 := List.mem_of_find?_eq_some hf
          have h2 := List.find?_some hf
          exact absurd (List.mem_map.2 ⟨g, h1, (of_decide_eq_true h2).trans h.symm⟩) hn.1
      · rw [decide_eq_false h]
        cases hf : r.find? (fun f => decide (f.name = s)) with
        | none => dsimp only; rw [if_neg (fun e => h e.symm)]
        | some g => rfl
  rw [key l _ hn]
  cases findA l s <;> rfl
theorem ar_one {lib : List Af} {tp : Sc} (hf : ∀ s, byN lib s = findA lib s) {t : Bd} {ts : List Bool} (hlen : ts.length = t.args.length) (h1 : fieldsB t = true) (h2 : (t.op = 81 ∧ ts = [t.list]) ∨ (t.op = 85 ∧ callB (byN lib) tp t ts = true) ∨ (t.op = 83 ∧ ts = [false]) ∨ (t.op ≠ 81 ∧ t.op ≠ 85 ∧ t.op ≠ 83 ∧ ts = (operT t.op).1)) : arOne lib t := by
  unfold arOne
  rcases h2 with ⟨h, rfl⟩ | ⟨h, hc⟩ | ⟨h, rfl⟩ | ⟨n1, n5, n3, h⟩
  · exact .inr (.inl ⟨h, hlen.symm⟩)
  · unfold callB at hc
    cases hb : byN lib t.name with
    | none => rw [hb] at hc; cases hc
    | some f =>
      rw [hb] at hc
      dsimp only at hc
      by_cases hbad : f.list ≠ t.list ∨ ts.length ≠ f.params.length
      · rw [if_pos hbad] at hc; cases hc
      · have : ts.length = f.params.length := by
          by_cases e : ts.length = f.params.length
          · exact e
          · exact absurd (.inr e) hbad
        exact .inr (.inr (.inr (.inr (.inl ⟨h, f, by rw [← hf]; exact hb, by omega⟩))))
  · exact .inr (.inr (.inr (.inl ⟨h, hlen.symm⟩)))
  · unfold fieldsB at h1
    split at h1
    · cases h1
    split at h1
    · cases h1
    split at h1
    · cases h1
    split at h1
    · rename_i e; exact .inl e
    split at h1
    · rename_i e
      have hn := of_decide_eq_true h1
      rw [e] at h
      have : ts = [false, false] := h
      rw [this] at hlen
      exact .inr (.inr (.inl ⟨e, hlen.symm, hn.1, hn.2⟩))
    · have ho := of_decide_eq_true h1
      rcases ho with e | e | e | e | e | e | e | e
      · exact absurd e n1
      · exact absurd e n3
      · exact absurd e n5
      · exact .inr (.inr (.inr (.inr (.inr (.inl e)))))
      · rw [e] at h
        have : ts = [false, true] := h
        rw [this] at hlen
        exact .inr (.inr (.inr (.inr (.inr (.inr (.inl ⟨e, hlen.symm⟩))))))
      · rw [e] at h
        have : ts = [true] := h
        rw [this] at hlen
        exact .inr (.inr (.inr (.inr (.inr (.inr (.inr ⟨.inl e, hlen.symm⟩))))))
      · rw [e] at h
        have : ts = [true] := h
        rw [this] at hlen
        exact .inr (.inr (.inr (.inr (.inr (.inr (.inr ⟨.inr (.inl e), hlen.symm⟩))))))
      · rw [e] at h
        have : ts = [true] := h
        rw [this] at hlen
        exact .inr (.inr (.inr (.inr (.inr (.inr (.inr ⟨.inr (.inr e), hlen.symm⟩))))))
/-- A checked bind, opened. -/
theorem bndB_open {lib : ByteArray → Option Af} {tp : Sc} {t : Bd} {sc : Sc} {bd bd' : Bn} (h : bndB lib tp t sc bd = some bd') : ∃ ts, typesA sc t.args = some ts ∧ fieldsB t = true ∧ ((t.op = 81 ∧ ts = [t.list] ∧ bd' = bd) ∨ (t.op = 85 ∧ callB lib tp t ts = true ∧ bd' = bd) ∨ (t.op = 83 ∧ ts = [false] ∧ ∃ bd1, brB lib tp t.to t.thn sc bd = some bd1 ∧ brB lib tp t.to t.els sc bd1 = some bd') ∨ (t.op ≠ 81 ∧ t.op ≠ 85 ∧ t.op ≠ 83 ∧ ts = (operT t.op).1 ∧ (operT t.op).2 = t.list ∧ bd' = bd)) := by
  rw [bndB_eq] at h
  split at h
  · cases h
  split at h
  · cases h
  cases hts : typesA sc t.args with
  | none => rw [hts] at h; cases h
  | some ts =>
    rw [hts] at h
    dsimp only at h
    by_cases hfb : fieldsB t = false
    · rw [if_pos hfb] at h; cases h
    rw [if_neg hfb] at h
    have hfb' : fieldsB t = true := by simpa using hfb
    refine ⟨ts, rfl, hfb', ?_⟩
    by_cases h81 : t.op = 81
    · rw [if_pos h81] at h
      split at h
      · rename_i e; cases h; exact .inl ⟨h81, e, rfl⟩
      · cases h
    rw [if_neg h81] at h
    by_cases h85 : t.op = 85
    · rw [if_pos h85] at h
      split at h
      · rename_i e; cases h; exact .inr (.inl ⟨h85, e, rfl⟩)
      · cases h
    rw [if_neg h85] at h
    by_cases h83 : t.op = 83
    · rw [if_pos h83] at h
      split at h
      · rename_i e
        cases hb : brB lib tp t.to t.thn sc bd with
        | none => rw [hb] at h; cases h
        | some bd1 => rw [hb] at h; exact .inr (.inr (.inl ⟨h83, e, bd1, rfl, h⟩))
      · cases h
    rw [if_neg h83] at h
    split at h
    · rename_i e; cases h; exact .inr (.inr (.inr ⟨h81, h85, h83, e.1, e.2, rfl⟩))
    · cases h
theorem brB_all {lib : ByteArray → Option Af} {tp : Sc} {tn : ByteArray} : ∀ {l : List Bd} {sc : Sc} {bd bd' : Bn}, brB lib tp tn l sc bd = some bd' → ∀ y ∈ l, ∃ sc1 bd1 bd2, bndB lib tp y sc1 bd1 = some bd2
  | [], _, _, _, _, y, hy => by cases hy
  | b :: r, sc, bd, bd', h, y, hy => by
    rw [brB] at h
    split at h
    · cases h
    cases hb : bndB lib tp b sc bd with
    | none => rw [hb] at h; cases h
    | some bd1 =>
      rw [hb] at h
      dsimp only at h
      rcases List.mem_cons.1 hy with e | e
      · rw [e]; exact ⟨sc, bd, bd1, hb⟩
      · by_cases hr : r = []
        · rw [hr] at e; cases e
        · rw [if_neg hr] at h; exact brB_all h y e
theorem bodyB_all {lib : ByteArray → Option Af} {tp : Sc} : ∀ {l : List Bd} {sc : Sc} {bd : Bn} {r : Sc × Bn}, bodyB lib tp l sc bd = some r → ∀ y ∈ l, ∃ sc1 bd1 bd2, bndB lib tp y sc1 bd1 = some bd2
  | [], _, _, _, _, y, hy => by cases hy
  | b :: l, sc, bd, r, h, y, hy => by
    rw [bodyB] at h
    cases hb : bndB lib tp b sc bd with
    | none => rw [hb] at h; cases h
    | some bd1 =>
      rw [hb] at h
      rcases List.mem_cons.1 hy with e | e
      · rw [e]; exact ⟨sc, bd, bd1, hb⟩
      · exact bodyB_all h y e
/-- Without branches there are none. -/
theorem fields_thn {t : Bd} (h : fieldsB t = true) (h83 : t.op ≠ 83) : t.thn = [] ∧ t.els = [] := by
  unfold fieldsB at h
  split at h
  · cases h
  split at h
  · cases h
  split at h
  · cases h
  · rename_i e
    have : t.thn.length + t.els.length = 0 := by
      by_cases h0 : 0 < t.thn.length + t.els.length
      · exact absurd ⟨h83, h0⟩ e
      · omega
    exact ⟨List.length_eq_zero_iff.1 (by omega), List.length_eq_zero_iff.1 (by omega)⟩
theorem ar_bnd {lib : List Af} (hf : ∀ s, byN lib s = findA lib s) (hp : ∀ g ∈ lib, g.params.length ≤ 1000) {tp : Sc} : ∀ (n : Nat) (t : Bd), bszT t ≤ n → n ≤ 1000000 → ∀ {sc : Sc} {bd bd' : Bn}, bndB (byN lib) tp t sc bd = some bd' → ArB lib t
  | 0, t, h, _, _, _, _, _ => by rw [bszT_eq] at h; omega
  | n + 1, t, h, hn, sc, bd, bd', hb => by
    obtain ⟨ts, h1, h2, h3⟩ := bndB_open hb
    have hz := bszT_eq t
    have hlt := bszL_len t.thn
    have hle := bszL_len t.els
    have ho : arOne lib t := ar_one (tp := tp) hf (typesA_len h1) h2 (by
      rcases h3 with ⟨a, b, _⟩ | ⟨a, b, _⟩ | ⟨a, b, _⟩ | ⟨a, b, c, d, _⟩
      · exact .inl ⟨a, b⟩
      · exact .inr (.inl ⟨a, b⟩)
      · exact .inr (.inr (.inl ⟨a, b⟩))
      · exact .inr (.inr (.inr ⟨a, b, c, d⟩)))
    have hal : t.args.length ≤ 1000 := by
      have := typesA_len h1
      rcases ho with e | ⟨_, e⟩ | ⟨_, e, _⟩ | ⟨_, e⟩ | ⟨_, g, hg, e⟩ | e | ⟨_, e⟩ | ⟨_, e⟩
      · rcases h3 with ⟨a, _⟩ | ⟨a, _⟩ | ⟨a, _⟩ | ⟨_, _, _, d, _⟩
        · omega
        · omega
        · omega
        · rw [e] at d; have d' : ts = [] := d; rw [d'] at this; simp at this; omega
      · omega
      · omega
      · omega
      · have := hp g (List.mem_of_find?_eq_some hg); omega
      · rcases h3 with ⟨a, _⟩ | ⟨a, _⟩ | ⟨a, _⟩ | ⟨_, _, _, d, _⟩
        · omega
        · omega
        · omega
        · rw [e] at d; have d' : ts = [] := d; rw [d'] at this; simp at this; omega
      · omega
      · omega
    refine .mk ho ⟨hal, by omega, by omega⟩ (fun y hy => ?_) (fun y hy => ?_)
    · by_cases h83 : t.op = 83
      · rcases h3 with ⟨a, _⟩ | ⟨a, _⟩ | ⟨_, _, bd1, e1, e2⟩ | ⟨_, _, c, _⟩
        · omega
        · omega
        · obtain ⟨sc1, b1, b2, hy2⟩ := brB_all e1 y hy
          exact ar_bnd hf hp n y (by have := bszL_mem hy; omega) (by omega) hy2
        · exact absurd h83 c
      · rw [(fields_thn h2 h83).1] at hy; cases hy
    · by_cases h83 : t.op = 83
      · rcases h3 with ⟨a, _⟩ | ⟨a, _⟩ | ⟨_, _, bd1, e1, e2⟩ | ⟨_, _, c, _⟩
        · omega
        · omega
        · obtain ⟨sc1, b1, b2, hy2⟩ := brB_all e2 y hy
          exact ar_bnd hf hp n y (by have := bszL_mem hy; omega) (by omega) hy2
        · exact absurd h83 c
      · rw [(fields_thn h2 h83).2] at hy; cases hy
theorem libB_open {l : List Af} (h : libB l = true) : l.length ≤ 30 ∧ (l.map Af.name).Nodup ∧ ∀ f ∈ l, fnB (byN l) f = true := by
  unfold libB at h
  split at h
  · cases h
  split at h
  · cases h
  · rename_i a b
    exact ⟨by omega, by
      by_cases e : (l.map Af.name).Nodup
      · exact e
      · exact absurd e b, fun f hf => List.all_eq_true.1 h f hf⟩
theorem fnB_body {lib : ByteArray → Option Af} {f : Af} (h : fnB lib f = true) : ∃ r, bodyB lib (scP f.temps) f.body (scP f.params) (fun _ => 0) = some r := by
  unfold fnB at h
  split at h
  · cases h
  split at h
  · cases h
  split at h
  · cases h
  cases hb : bodyB lib (scP f.temps) f.body (scP f.params) (fun _ => 0) with
  | none => rw [hb] at h; cases h
  | some r => exact ⟨r, rfl⟩
theorem ar_valid {lib : List Af} (hfit : ∀ g ∈ lib, AfFit g) (h : libB lib = true) : ∀ g ∈ lib, ∀ b ∈ g.body, ArB lib b := by
  intro g hg b hb
  obtain ⟨_, h2, h3⟩ := libB_open h
  obtain ⟨r, hr⟩ := fnB_body (h3 g hg)
  obtain ⟨sc1, b1, b2, hy⟩ := bodyB_all hr b hb
  have := bszL_mem hb
  have := (hfit g hg).bl
  exact ar_bnd (fun s => byN_find h2 s) (fun g hg => (hfit g hg).pl) (bszT b) b (Nat.le_refl _) (by omega) hy

end Go.Proofs.YtcoeakdpcigogaaDoor

namespace Go.Proofs.YtcoeakdpcigogaaDoor
open Go.ChangeShapes Go.WideShapes Go.ChangeAt Go.RowKit Go.Sort Go.Maps

def sx : ByteArray := ⟨#[120]⟩
def sy : ByteArray := ⟨#[121]⟩
def sf : ByteArray := ⟨#[102]⟩
def sh : ByteArray := ⟨#[104]⟩
def axN : Nd := .mk 81 0 sx []
def a1N : Nd := .mk 80 1 ⟨#[]⟩ []
def acN : Nd := .mk 85 0 sf [axN, a1N]
def aoN : Nd := .mk 82 8 ⟨#[]⟩ [axN, acN]
def awF1 : Fn1 := ⟨sf, [⟨sx, false⟩, ⟨sy, false⟩], false, axN⟩
def awF2 : Fn1 := ⟨sh, [⟨sx, false⟩], false, aoN⟩
def awLib : List Fn1 := [awF1, awF2]
def bdFitB : Nat → Bd → Bool
  | 0, _ => false
  | n + 1, t => decide (t.to.size ≤ 1000) && decide (t.name.size ≤ 1000) && t.args.all (fun a => decide (a.size ≤ 1000)) && decide (t.args.length ≤ 1000) && t.thn.all (bdFitB n) && t.els.all (bdFitB n)
theorem bdFitB_ok : ∀ (n : Nat) (t : Bd), bdFitB n t = true → BdFit t
  | 0, _, h => by rw [bdFitB] at h; cases h
  | n + 1, t, h => by
    rw [bdFitB] at h
    simp only [Bool.and_eq_true, decide_eq_true_eq, List.all_eq_true] at h
    obtain ⟨⟨⟨⟨⟨h1, h2⟩, h3⟩, h4⟩, h5⟩, h6⟩ := h
    exact .mk (by omega) (by omega) (fun a ha => by have := h3 a ha; omega) (by omega) (fun y hy => bdFitB_ok n y (h5 y hy)) (fun y hy => bdFitB_ok n y (h6 y hy))
def afFitB (f : Af) : Bool := f.params.all (fun p => decide (p.name.size ≤ 1000)) && f.temps.all (fun p => decide (p.name.size ≤ 1000)) && decide (f.params.length ≤ 1000) && decide (f.temps.length ≤ 1000) && f.body.all (bdFitB 10) && decide (bszL f.body ≤ 1000) && decide (f.result.size ≤ 1000)
theorem afFitB_ok {f : Af} (h : afFitB f = true) : AfFit f := by
  unfold afFitB at h
  simp only [Bool.and_eq_true, decide_eq_true_eq, List.all_eq_true] at h
  obtain ⟨⟨⟨⟨⟨⟨h1, h2⟩, h3⟩, h4⟩, h5⟩, h6⟩, h7⟩ := h
  exact ⟨fun p hp => by have := h1 p hp; omega, fun p hp => by have := h2 p hp; omega, h3, by omega, fun y hy => bdFitB_ok 10 y (h5 y hy), by omega, by omega⟩
theorem aw_valid : (validR awLib).2 = 0 := by decide +kernel
theorem aw_norm : (normL awLib).all afFitB = true := by decide +kernel
theorem aw_names : (normL awLib).all (fun f => decide (f.name.size ≤ 1000)) = true := by decide +kernel
theorem aw_len : (normL awLib).length = 2 := by decide +kernel
theorem aw_f0 : ((normL awLib)[0]?).map (fun f => (f.body.length, f.result)) = some (0, sx) := by decide +kernel
theorem aw_f1 : ((normL awLib)[1]?).map (fun f => (f.body.length, f.result, (f.body[2]?).map Bd.op)) = some (4, ⟨#[116, 51]⟩, some 85) := by decide +kernel
theorem aw_eval : aEval apR (normL awLib) sh [⟨false, 5, []⟩] 9 = (0, ⟨false, 10, []⟩) := by kernel_rfl
def ndFitB : Nat → Nd → Bool
  | 0, _ => false
  | n + 1, x => decide (x.kind < 256) && decide (0 ≤ x.num) && decide (x.num ≤ 1000) && decide (x.name.size ≤ 1000) && decide (x.kids.length ≤ 1000) && x.kids.all (ndFitB n)
theorem ndFitB_ok : ∀ (n : Nat) (x : Nd), ndFitB n x = true → NdFit x
  | 0, _, h => by rw [ndFitB] at h; cases h
  | n + 1, x, h => by
    rw [ndFitB] at h
    simp only [Bool.and_eq_true, decide_eq_true_eq, List.all_eq_true] at h
    obtain ⟨⟨⟨⟨⟨h1, h2⟩, h3⟩, h4⟩, h5⟩, h6⟩ := h
    exact .mk h1 ⟨by omega, by omega⟩ (by omega) (by omega) fun k y hy => ndFitB_ok n y (h6 y (List.mem_of_getElem? hy))
theorem aw_mem_get {k : Nat} {f : Fn1} (h : awLib[k]? = some f) : f = awF1 ∨ f = awF2 := by
  match k, h with
  | 0, h => simp [awLib] at h; exact .inl h.symm
  | 1, h => simp [awLib] at h; exact .inr h.symm
  | k + 2, h => simp [awLib] at h
theorem aw_fit : LibFit awLib := ⟨by decide, fun k f h => by
  rcases aw_mem_get h with rfl | rfl
  · exact ⟨by decide, ⟨by decide, fun k p hp => by
      match k, hp with
      | 0, hp => simp [awF1] at hp; subst hp; decide
      | 1, hp => simp [awF1] at hp; subst hp; decide
      | k + 2, hp => simp [awF1] at hp⟩, ndFitB_ok 10 _ (by decide +kernel)⟩
  · exact ⟨by decide, ⟨by decide, fun k p hp => by
      match k, hp with
      | 0, hp => simp [awF2] at hp; subst hp; decide
      | k + 1, hp => simp [awF2] at hp⟩, ndFitB_ok 10 _ (by decide +kernel)⟩⟩
theorem aw_few : FewParams awLib := fun k f h => by rcases aw_mem_get h with rfl | rfl <;> decide
theorem aw_nodes : FewNodes awLib := fun k f h => by rcases aw_mem_get h with rfl | rfl <;> decide +kernel

end Go.Proofs.YtcoeakdpcigogaaDoor

/-
  anf.normalize.
-/
import Derived.Test.YtcoeakdpcigogaaDoorAnfNr0
namespace Go.Proofs.YtcoeakdpcigogaaDoor
open Go.ChangeShapes Go.WideShapes Go.ChangeAt Go.RowKit Go.Sort Go.Maps

set_option maxRecDepth 100000 in
set_option maxHeartbeats 4000000 in
theorem normalize_any {w : World} (hW : Wld w) {lib : List Fn1} {A : Option Addr} {cap : Nat} (hL : LibAt w A lib) (hF : LibFit lib) {f : Fn1} {Ap Ak : Option Addr} {cp ck : Nat} (hPm : PmsAt w Ap f.params) (hKd : NdsAt w Ak f.body.kids) (hfit : FnFit f) (hform : formT f.body = true) (har : arT lib f.body = true) (hns : nsT f.body (fun q => (envP f.params q).isSome) = true) (hz : sizeT f.body ≤ 20000) (hpl : f.params.length ≤ 10000) :
    Calls Tryd.prog 27 #[.slice A lib.length cap, .agg #[.string f.name, .slice Ap f.params.length cp, .bool f.list, .int .u8 f.body.kind, .int .i64 f.body.num, .string f.body.name, .slice Ak f.body.kids.length ck]] w (RetNr lib f w) := by
  obtain ⟨hbx, hx3, hx4, hsz⟩ := two_boxF w #[.string f.name, .slice Ap f.params.length cp, .bool f.list, .int .u8 f.body.kind, .int .i64 f.body.num, .string f.body.name, .slice Ak f.body.kids.length ck] #[.string ⟨#[]⟩, .slice none 0 0, .bool false, .slice none 0 0, .slice none 0 0, .string ⟨#[]⟩]
  have HX3 := Lib.hid hx3
  have HX4 := Lib.hid hx4
  have HB := Lib.hid hbx
  have HSZ := Lib.hid hsz
  have HL := Lib.hid (And.intro hW (And.intro hL (And.intro hF (And.intro hKd hPm))))
  have HFT := Lib.hid (And.intro hfit (And.intro hform (And.intro har hns)))
  clear hbx hx3 hx4 hsz hW hL hF hKd hPm hfit hform har hns
  go_enter Tryd.func27, Tryd.ntmps27
  go_upto_region 1 with fail
  generalize (w.alloc _).alloc _ = W at HX3 HX4 HB HSZ ⊢
  obtain ⟨a0, a1, a2, a3, a4, a5, a6⟩ := HX3.out.seven
  have hlt3 := HX3.out.lt
  have HPW := Lib.hid (fun (W' : World) (hb : Below W.heap.size W W') => cloneP_any f.params Ap cp W' (HL.out.2.2.2.2.mono (below_step HB.out HB.out.size hb)) (by omega))
  have HB5 := Lib.hid (And.intro (below_box W (Obj.cells #[.string ⟨#[]⟩, .slice none 0 0, .bool false, .slice none 0 0, .slice none 0 0, .string ⟨#[]⟩] 39)) (bx_new W #[.string ⟨#[]⟩, .slice none 0 0, .bool false, .slice none 0 0, .slice none 0 0, .string ⟨#[]⟩] 39))
  have HCA := Lib.hid (HPW.out _ (belowDrawnP HB5.out.1))
  have HCB := Lib.hid (HPW.out _ (belowDrawnP (Below.refl _ W)))
  clear HPW
  go_cut [5] (fun p wc => ∃ (O : Nat) (Aq : Option Addr) (cq : Nat), p = .pointer (some ⟨O, 0, none⟩) ∧ Hid (Nr1 W wc f O Aq cq))
  case first =>
    go_region_law (first
      | (go_simp; go_at_call 41; refine HCA.out.mono ?_; rintro e w5 ⟨Aq, cq, rfl, hp5, hb5, hn5⟩; have HE := Lib.hid (nr1_a (cp := cq) (belowDrawnP HB5.out.1) (by simp) (HB5.out.2.below (belowDrawnP (Below.refl _ _))) hb5 hp5 hn5); have hwl := hb5.size; have HX5 := Lib.hid ((HB5.out.2.below (belowDrawnP (Below.refl _ _))).below hb5); have HX35 := Lib.hid ((HX3.out.below (belowDrawnP HB5.out.1)).below hb5); obtain ⟨_, f0, f1, f2, f3, f4, f5⟩ := HX5.out.six'; obtain ⟨d0, d1, d2, d3, d4, d5, d6⟩ := HX35.out.seven; have hl5 := HX5.out.lt; have hl3 := HX35.out.lt; clear hp5 hb5 hn5; dsimp only)
      | (go_simp; go_at_call 41; refine HCB.out.mono ?_; rintro e w5 ⟨Aq, cq, rfl, hp5, hb5, hn5⟩; have HE := Lib.hid (nr1_b (cp := cq) (belowDrawnP (Below.refl _ W)) rfl hb5 hp5 hn5); have hwl := hb5.size; have HX35 := Lib.hid ((HX3.out.below (belowDrawnP (Below.refl _ W))).below hb5); obtain ⟨d0, d1, d2, d3, d4, d5, d6⟩ := HX35.out.seven; have hl3 := HX35.out.lt; clear hp5 hb5 hn5; dsimp only)
      | fail)
    all_goals
      go_wp2_with fail
      go_meet
      with_reducible exact ⟨_, Aq, cq, rfl, Lib.hid HE.out⟩
  case rest =>
    obtain ⟨O, Aq, cq, rfl, hnr⟩ := hcut
    obtain ⟨W1, rfl⟩ : ∃ y, y = wc := ⟨_, rfl⟩
    have HNR := Lib.hid hnr.out
    have HX31 := Lib.hid (HX3.out.below HNR.out.hb)
    have HX41 := Lib.hid (HX4.out.below HNR.out.hb)
    clear hnr a0 a1 a2 a3 a4 a5 a6 hlt3 HB5 HCA HCB
    obtain ⟨a0, a1, a2, a3, a4, a5, a6⟩ := HX31.out.seven
    have hlt3 := HX31.out.lt
    have hmm := @run_makeMap Tryd.prog
    go_upto_region 5 with fail
    have HV := Lib.hid (vis_made W1 A cap lib O 109)
    unfold visB at HV
    generalize (W1.alloc _).alloc _ = W2 at HV ⊢
    clear hmm a0 a1 a2 a3 a4 a5 a6 hlt3
    have HX32 := Lib.hid (HX31.out.below HV.out.1)
    have HX42 := Lib.hid (HX41.out.below HV.out.1)
    have HB2 := Lib.hid (below_step (below_step HB.out HB.out.size HNR.out.hb) (by have := HB.out.size; have := HNR.out.hb.size; omega) HV.out.1)
    have HLO := Lib.hid (show w.heap.size + 1 < O ∧ O < W1.heap.size by have := HNR.out.lo; have := HSZ.out; have := HNR.out.bx.lt; omega)
    have HO2 := Lib.hid (HNR.out.bx.below HV.out.1)
    have HP2 := Lib.hid (HNR.out.pm.mono HV.out.1)
    obtain ⟨a0, a1, a2, a3, a4, a5, a6⟩ := HX32.out.seven
    have hlt3 := HX32.out.lt
    clear HX31 HX41
    go_wp2_with fail
    clear a0 a1 a2 a3 a4 a5 a6 hlt3
    go_loopw [28] (fun i wr => ∃ k : Nat, k ≤ f.params.length ∧ i = .int .i64 k ∧ Hid (Fr W2 wr (fun j => j = W1.heap.size)) ∧ Hid (MapP wr W1.heap.size k (envP (f.params.take k)))) (fun i _ => f.params.length - (intOf i).toNat)
    case atStart => exact ⟨0, by omega, rfl, Lib.hid (Fr.refl _ _), Lib.hid HV.out.2.1⟩
    case round =>
      obtain ⟨k, hk, rfl, hfr, henv⟩ := hrel
      have q0 : Below w.heap.size w wr := hfr.out.toBelow HB2.out HB2.out.size (fun k e => by have e' : k = W1.heap.size := e; have := HLO.out; omega)
      by_cases hin : k < f.params.length
      · obtain ⟨b1, o1, rfl, c0, c1⟩ := (HL.out.2.2.2.2.mono q0).at_ hin
        have hpn := HFT.out.1.2.1.2 k _ (List.getElem?_eq_getElem hin)
        have HST := Lib.hid (envP_step hin)
        generalize f.params[k] = p at *
        have hlt : b1 < wr.heap.size := block_lt_of_cell c0
        have hbx := below_box wr (Obj.cells #[.string p.name, .bool p.list] 65)
        have rk1 : (0 : Int) ≤ k := by omega
        have p0 : (wr.alloc (Obj.cells #[.string p.name, .bool p.list] 65)).cell? ⟨wr.heap.size, 0, none⟩ = some (.string p.name) := by simp [go_sem]
        have p1 : (wr.alloc (Obj.cells #[.string p.name, .bool p.list] 65)).cell? ⟨wr.heap.size, 1, none⟩ = some (.bool p.list) := by simp [go_sem]
        have hfb := Fr.of_below hbx (fun j => j = W1.heap.size)
        have HVr := Lib.hid ((HV.out.2.2.1.fr hfr.out (fun e => by have e' : W1.heap.size + 1 = W1.heap.size := e; omega)).below hbx)
        have HM := Lib.hid (henv.out.below hbx)
        have hfr2 := Lib.hid (hfr.out.trans hfb fun _ _ e => e)
        obtain ⟨x0, x1, x2, x3, _⟩ := Bx.four HVr.out
        have hltv := HVr.out.lt
        have hltb : wr.heap.size < (wr.alloc (Obj.cells #[.string p.name, .bool p.list] 65)).heap.size := by simp
        clear henv hfr
        go_upto_region 8 with fail
        clear c0 c1
        generalize wr.alloc _ = V at hbx p0 p1 hfb HVr HM hfr2 x0 x1 x2 x3 hltv hltb ⊢
        go_wp2_with (at_mapUpdate; go_loud (refine wpList_put_P _ rfl _ _ _ 106 (.inl rfl) Tryd.underlying106 W1.heap.size k (envP (f.params.take k)) rfl HM.out (by unfold maxLen; omega) p.name p rfl rfl (by unfold maxLen; omega) ?_; intro w5 HM5 hT5))
        rw [← HST.out] at HM5
        exact ⟨⟨k + 1, by omega, by go_num, Lib.hid (hfr2.out.trans (Fr.of_turned hT5) fun _ _ e => e), Lib.hid HM5⟩, by simp [intOf]; omega⟩
      · obtain rfl : k = f.params.length := by omega
        rw [List.take_length] at henv
        have HX3r := Lib.hid (HX32.out.fr hfr.out (fun e => by have e' : w.heap.size = W1.heap.size := e; have := HLO.out; omega))
        have HX4r := Lib.hid (HX42.out.fr hfr.out (fun e => by have e' : w.heap.size + 1 = W1.heap.size := e; have := HLO.out; omega))
        have HOr := Lib.hid (HO2.out.fr hfr.out (fun e => by have e' : O = W1.heap.size := e; have := HLO.out; omega))
        have HVr := Lib.hid (show Bx wr (W1.heap.size + 1) (visB A cap lib O W1.heap.size) from HV.out.2.2.1.fr hfr.out (fun e => by have e' : W1.heap.size + 1 = W1.heap.size := e; omega))
        have HNs := Lib.hid (ns_first q0 HLO.out.1 HOr.out HLO.out.2 HVr.out henv.out)
        have HPr := Lib.hid (HP2.out.fr hfr.out (fun b o e e2 => by have := HNR.out.nw b o e; have e' : b = W1.heap.size := e2; omega))
        have HC := Lib.hid (nex_all ⟨w, W1.heap.size + 2, W1.heap.size + 1, O, W1.heap.size, A, cap, lib, .string f.name, .slice Aq f.params.length cq, .bool f.list, .string ⟨#[]⟩, .slice none 0 0⟩ f.body O 4 _ _ _ _ _ _ _ wr Ak ck HNs.out ⟨HL.out.1, HL.out.2.1, HL.out.2.2.1, HL.out.2.2.2.1, HFT.out.1.2.2, HFT.out.2.1, HFT.out.2.2.1, HFT.out.2.2.2, by simp; omega, by simp; omega, by omega⟩)
        have hszr := hfr.out.size
        have HNB := Lib.hid (fun b o e => (HNR.out.nw b o e))
        have hltO := HOr.out.lt
        obtain ⟨a0, a1, a2, a3, a4, a5, a6⟩ := HX3r.out.seven
        have hlt3 := HX3r.out.lt
        clear hfr henv q0 HNs
        go_wp2_with fail
        refine HC.out.mono ?_
        clear HC a0 a1 a2 a3 a4 a5 a6 hlt3 hltO
        rintro e w5 ⟨rfl, n', ut', ub', hn', hNs, hfr5, hnw1, hnw2⟩
        rw [List.nil_append] at hNs
        have HFI := Lib.hid (nr_fin hNs rfl rfl rfl (HPr.out.fr hfr5 (fun b o e e2 => by have := HNB.out b o e; have := HLO.out; rcases ng_first e2 with e2 | e2 | e2 <;> (have e3 : b = _ := e2; first | omega | (dsimp only at e3; omega)))) (fun b o e => by have := HNB.out b o e; exact ⟨this.2.2, by have := HSZ.out; show b ≠ w.heap.size + 1; omega, by have := HSZ.out; show w.heap.size ≤ b; omega, by have := HV.out.1.size; have := hszr; have := hfr5.size; omega⟩) (HX4r.out.fr hfr5 (fun e2 => by have := HLO.out; rcases ng_first e2 with e2 | e2 | e2 <;> (have e3 : w.heap.size + 1 = _ := e2; first | omega | (dsimp only at e3; omega)))) HLO.out.1 (nE lib f.body (envP f.params) []).p.name)
        have HNF := Lib.hid (show normF lib f = ⟨f.name, f.params, f.list, (nE lib f.body (envP f.params) []).ts, (nE lib f.body (envP f.params) []).bs, (nE lib f.body (envP f.params) []).p.name⟩ from rfl)
        have hlt5 := (hNs.olds).1
        clear hNs hfr5 hnw1 hnw2 hszr
        generalize nE lib f.body (envP f.params) [] = r at HFI HNF ⊢
        obtain ⟨At, ct, Ab, cb, rfl, rfl, hfz, hcz, hO6, hx6, hfin⟩ := HFI.out
        simp only at hfz hcz hO6 hx6 hfin hlt5
        have HFN := Lib.hid hfin
        have HO6 := Lib.hid hO6
        have HX6 := Lib.hid hx6
        clear HFI hfin hO6 hx6
        have hfd := field0 r.p.name r.p.list w5
        go_upto_region 11 with fail
        clear hfd
        generalize w5.setCell _ _ = W6 at HFN HO6 HX6 ⊢
        clear hfz hcz hlt5
        obtain ⟨⟨y0, y1, y2, y3, y4, y5⟩, _⟩ := HO6.out.six'
        obtain ⟨_, f0, f1, f2, f3, f4, f5⟩ := HX6.out.six'
        have hl6 := HO6.out.lt
        have hl7 := HX6.out.lt
        go_wp2_with fail
        have HE := Lib.hid (HFN.out _ rfl)
        generalize World.setCell _ _ _ = W7 at HE ⊢
        obtain ⟨⟨g0, g1, g2, g3, g4, g5⟩, _⟩ := HE.out.1.six'
        exact bodyPost_ret (v := .agg #[.string f.name, .slice Aq f.params.length cq, .bool f.list, .slice At r.ts.length ct, .slice Ab r.bs.length cb, .string r.p.name]) (by simp [results, Tryd.results27, go_sem, g0, g1, g2, g3, g4, g5]) rfl ⟨_, rfl, by rw [HNF.out]; exact HE.out.2.2, HE.out.2.1⟩

end Go.Proofs.YtcoeakdpcigogaaDoor

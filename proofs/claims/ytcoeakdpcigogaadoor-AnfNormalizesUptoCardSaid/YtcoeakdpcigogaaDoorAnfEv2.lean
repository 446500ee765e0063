/-
  anf.Eval: call.
  anf.Eval: find.
-/
import Derived.Test.YtcoeakdpcigogaaDoorAnfEv1
import Derived.Test.YtcoeakdpcigogaaDoorFevCall
namespace Go.Proofs.YtcoeakdpcigogaaDoor
open Go.ChangeShapes Go.WideShapes Go.ChangeAt Go.RowKit Go.Sort Go.Maps

def RetCl (X : Nat → Prop) (A : Option Addr) (cap : Nat) (lib : List Af) (bv act : Nat) (r : Ac) (w : World) (e : Ending) (w' : World) : Prop :=
  Fr w w' (fun k => k = bv) ∧ ∃ (F' : Int), EvB w' bv A cap lib F' act ∧
    ((∃ c b n A' m c', r = .err c ∧ c ≠ 0 ∧ e = .returned (.tuple #[.agg #[.bool b, .int .i64 n, .slice A' m c'], .int .i64 c])) ∨ (∃ (v : Vl) (f' : Nat) (A' : Option Addr) (c' : Nat), r = .ok v f' ∧ F'.toNat = f' ∧ F' ≤ 1000000 ∧ e = .returned (.tuple #[.agg #[.bool v.list, .int .i64 v.n, .slice A' v.l.length c'], .int .i64 0]) ∧ IntsC w' X A' c' v.l ∧ v.l.length ≤ 1000000))
def CallC (W0 : World) (A : Option Addr) (cap : Nat) (lib : List Af) (bv d : Nat) : Prop := ∀ (X : Nat → Prop) (act : Nat) (g : Af) (args : List Vl) (f : Nat) (F : Int) (w : World) (cs : List Value) (Al : Option Addr) (cl : Nat), EvPre W0 w bv A cap lib F act d f → X bv → (∀ k, X k → k < w.heap.size) → g ∈ lib → args.length = g.params.length → (∀ v ∈ args, v.l.length ≤ 1000000) → AfC W0 (fun _ => False) cs g → VlsX w X Al args → f ≤ 1000000 →
  Calls Tryd.prog 35 #[.pointer (some ⟨bv, 0, none⟩), .agg cs.toArray, .slice Al args.length cl] w (RetCl X A cap lib bv act (aCall (aRun apR lib d) act g args f) w)
theorem two_boxC (w : World) (c6 c3 : Array Value) : Below w.heap.size w ((w.alloc (Obj.cells c6 39)).alloc (Obj.cells c3 46)) ∧ Bx ((w.alloc (Obj.cells c6 39)).alloc (Obj.cells c3 46)) w.heap.size c6 ∧ Bx ((w.alloc (Obj.cells c6 39)).alloc (Obj.cells c3 46)) (w.heap.size + 1) c3 ∧ ((w.alloc (Obj.cells c6 39)).alloc (Obj.cells c3 46)).heap.size = w.heap.size + 2 := by
  have b1 := below_box w (Obj.cells c6 39)
  have b2 := below_box (w.alloc (Obj.cells c6 39)) (Obj.cells c3 46)
  have h2 := bx_new (w.alloc (Obj.cells c6 39)) c3 46
  rw [show (w.alloc (Obj.cells c6 39)).heap.size = w.heap.size + 1 by simp] at h2
  exact ⟨below_step b1 b1.size b2, (bx_new w c6 _).below b2, h2, by simp⟩

set_option maxRecDepth 100000 in
set_option maxHeartbeats 8000000 in
theorem ecall_of {W0 : World} {A : Option Addr} {cap : Nat} {lib : List Af} {bv d : Nat} (hok : EcOk W0 A lib) (hR : RunC W0 A cap lib bv d) : CallC W0 A cap lib bv d := by
  intro X act g args f F w cs Al cl hp hXb hXl hg hlen hvl hc hV hf6
  have HGF := Lib.hid (And.intro (hok.fit g hg) (hok.ar g hg))
  obtain ⟨Ap, cp, Aτ, cτ, Ab, cb, rfl, hps, _, hbs⟩ := hc
  have HDA := Lib.hid (And.intro hps.1 hbs)
  have HR := Lib.hid hR
  have HP := Lib.hid hp
  have HVA := Lib.hid (And.intro hV hvl)
  have HLEN := Lib.hid hlen
  have hvlt : bv < w.heap.size := Bx.lt hp.ev
  obtain ⟨hbx, hx6, hx3, hsz⟩ := two_boxC w #[.string g.name, .slice Ap g.params.length cp, .bool g.list, .slice Aτ g.temps.length cτ, .slice Ab g.body.length cb, .string g.result] #[.bool false, .int .i64 0, .slice none 0 0]
  have HBX := Lib.hid hbx
  have HX6 := Lib.hid hx6
  have HX3 := Lib.hid hx3
  have HSZ := Lib.hid hsz
  have HEV := Lib.hid (show EvB _ bv A cap lib F act from Bx.below hp.ev hbx)
  have HEQ := Lib.hid (aCall.eq_def (aRun apR lib d) act g args f)
  have ham := hp.am
  have HXB := Lib.hid hXb
  have HXL := Lib.hid hXl
  have HBW := Lib.hid (below_step hp.bw hp.bw.size hbx)
  have hpl := HGF.out.1.pl
  have HVL0 := Lib.hid hvlt
  have hmm := @run_makeMap Tryd.prog
  clear hXb hXl hok hR hp hg hlen hvl hV hps hbs hbx hx6 hx3 hsz
  go_enter Tryd.func35, Tryd.ntmps35
  go_upto_region 1 with fail
  generalize (w.alloc _).alloc _ = W at HBX HX6 HX3 HSZ HEV HBW ⊢
  obtain ⟨v0, v1, v2, z0, z1, z2⟩ := HEV.out.three
  have hlv := Bx.lt HEV.out
  obtain ⟨y0, y1, y2, f0, f1, f2⟩ := Bx.three HX3.out
  have hly := HX3.out.lt
  by_cases h30 : 30 ≤ act
  · have HE := Lib.hid (show RetCl X A cap lib bv act (aCall (aRun apR lib d) act g args f) w (.returned (.tuple #[.agg #[.bool false, .int .i64 0, .slice none 0 0], .int .i64 19])) (((W.setCell ⟨w.heap.size + 1, 0, none⟩ (.bool false)).setCell ⟨w.heap.size + 1, 1, none⟩ (.int .i64 0)).setCell ⟨w.heap.size + 1, 2, none⟩ (.slice none 0 0)) ∧ Bx (((W.setCell ⟨w.heap.size + 1, 0, none⟩ (.bool false)).setCell ⟨w.heap.size + 1, 1, none⟩ (.int .i64 0)).setCell ⟨w.heap.size + 1, 2, none⟩ (.slice none 0 0)) (w.heap.size + 1) #[.bool false, .int .i64 0, .slice none 0 0] from by
      have hf := Fr.set3 W (w.heap.size + 1) (.bool false) (.int .i64 0) (.slice none 0 0)
      exact ⟨⟨(Fr.of_below HBX.out (fun k => k = bv)).trans hf (fun j hj e => by have e' : j = w.heap.size + 1 := e; omega), F, Bx.fr HEV.out hf (fun e => by have e' : bv = w.heap.size + 1 := e; omega), .inl ⟨19, false, 0, none, 0, 0, by rw [HEQ.out, if_pos h30], by decide, rfl⟩⟩, HX3.out.set3 _ _ _⟩)
    have h30' : decide ((30 : Int) ≤ act) = true := by simp; omega
    go_wp2_with fail
    generalize World.setCell _ _ _ = W7 at HE ⊢
    obtain ⟨x0, x1, x2, _⟩ := Bx.three HE.out.2
    exact bodyPost_ret (v := .tuple #[.agg #[.bool false, .int .i64 0, .slice none 0 0], .int .i64 19]) (by simp [results, Tryd.results35, go_sem, x0, x1, x2]) rfl HE.out.1
  have HEQ2 := Lib.hid (HEQ.out.trans (if_neg h30))
  have h30' : decide ((30 : Int) ≤ act) = false := by simp; omega
  have HB3 := Lib.hid (below_box W (.map #[] 0))
  have HM3 := Lib.hid (mapV_made W)
  have HMLT := Lib.hid (show w.heap.size + 1 < W.heap.size ∧ bv < W.heap.size by have := HSZ.out; omega)
  clear HEQ
  obtain ⟨a0, a1, a2, a3, a4, a5⟩ := (HX6.out.six').1
  have hlx := HX6.out.lt
  go_wp2_with fail
  clear v0 v1 v2 z0 z1 z2 hlv y0 y1 y2 f0 f1 f2 hly a0 a1 a2 a3 a4 a5 hlx hmm
  have HX6b := Lib.hid (HX6.out.below HB3.out)
  have HX3b := Lib.hid (HX3.out.below HB3.out)
  have HEVb := Lib.hid (show EvB _ bv A cap lib F act from Bx.below HEV.out HB3.out)
  have HBW3 := Lib.hid (below_step HBW.out HBW.out.size HB3.out)
  have HBX3 := Lib.hid (below_step HBX.out HBX.out.size HB3.out)
  generalize W.alloc _ = W3 at HB3 HM3 HX6b HX3b HEVb HBW3 HBX3 ⊢
  go_loopw [22] (fun i wr => ∃ k : Nat, k ≤ g.params.length ∧ i = .int .i64 k ∧ Hid (Fr W3 wr (fun j => j = W.heap.size)) ∧ Hid (EnvX wr (fun k => X k ∨ k = w.heap.size + 1) W.heap.size k (envV (g.params.take k) (args.take k) fun _ => none))) (fun i _ => g.params.length - (intOf i).toNat)
  case atStart => exact ⟨0, by omega, rfl, Lib.hid (Fr.refl _ _), Lib.hid ⟨fun e => by have := HMLT.out; rcases e with e | e; (have := HXL.out _ e; omega); omega, _, HM3.out, fun _ _ => rfl, fun s v hs => by cases hs⟩⟩
  case round =>
    obtain ⟨k, hk, rfl, hfr, henv⟩ := hrel
    have hBW : Below W0.heap.size W0 wr := hfr.out.toBelow HBW3.out HBW3.out.size (fun j e => by have e' : j = W.heap.size := e; have := HBW.out.size; omega)
    have hBw : Below w.heap.size w wr := hfr.out.toBelow HBX3.out HBX3.out.size (fun j e => by have e' : j = W.heap.size := e; have := HBX.out.size; omega)
    by_cases hin : k < g.params.length
    · have hin' : k < args.length := by rw [HLEN.out]; exact hin
      obtain ⟨b1, o1, rfl, c0, c1⟩ := (HDA.out.1.mono hBW).at_ hin
      have hV' := HVA.out.1.le (Le.of_fr (X' := fun k => X k ∨ k = w.heap.size + 1) (Fr.of_below hBw X) (fun _ _ e => e) fun j hj e => by rcases e with e | e; exact e; omega)
      obtain ⟨ba, oa, A', c', rfl, hnb, d0, d1, d2, hi⟩ := hV' k _ (List.getElem?_eq_getElem hin')
      have hpn := HGF.out.1.pn _ (List.getElem_mem hin)
      have hvlk := HVA.out.2 _ (List.getElem_mem hin')
      have HST := Lib.hid (envV_step HLEN.out hin hin' (fun _ => none))
      generalize g.params[k] = p at *
      generalize args[k] = u at *
      have hbx := below_box wr (Obj.cells #[.string p.name, .bool p.list] 65)
      have HPX := Lib.hid (bx_new wr #[.string p.name, .bool p.list] 65)
      have HBB := Lib.hid hbx
      have HI := Lib.hid hi
      have HEN := Lib.hid henv.out
      have HFR := Lib.hid hfr.out
      have g0 := below_cell hbx d0
      have g1 := below_cell hbx d1
      have g2 := below_cell hbx d2
      have hlt := block_lt_of_cell c0
      have hlt2 := block_lt_of_cell d0
      have rk1 : (0 : Int) ≤ k := by omega
      have rk2 : (k : Int) < args.length := by omega
      clear hfr henv hi hV' hbx hBW hBw
      go_upto_region 7 with fail
      clear c0 c1 d0 d1 d2 hlt
      have hltS : wr.heap.size < (wr.alloc (Obj.cells #[.string p.name, .bool p.list] 65)).heap.size := by simp
      generalize wr.alloc _ = V at HPX HBB g0 g1 g2 hltS ⊢
      obtain ⟨y0, y1, _⟩ := HPX.out.two
      have HVD := Lib.hid (show Fr wr V.drew (fun _ => False) from Fr.of_below (belowDrawn HBB.out) _)
      obtain ⟨hX, raw, hM, h3, h4⟩ := HEN.out.fr HVD.out (X' := fun k => X k ∨ k = w.heap.size + 1) (fun _ _ e => e.elim) (fun _ _ e => e)
      have HI2 := Lib.hid (HI.out.le (Le.of_fr (X' := fun k => X k ∨ k = w.heap.size + 1) HVD.out (fun _ _ e => e.elim) fun _ _ e => e))
      obtain ⟨w5, hput, hM5, hT5⟩ := mapV_put (t := 129) Tryd.underlying129 hM (by unfold maxLen; omega) p.name (by unfold maxLen; omega) (.agg #[.bool u.list, .int .i64 u.n, .slice A' u.l.length c'])
      have hN := EnvX.put hX h3 h4 (Le.of_turned hT5 _) HI2.out hvlk hM5
      rw [← HST.out] at hN
      have HN := Lib.hid hN
      have HF5 := Lib.hid ((HFR.out.trans HVD.out fun _ _ e => e.elim).trans (Fr.of_turned hT5) fun _ _ e => e)
      clear hX hM h3 h4 hM5 hT5 hN
      go_region
      go_wp2_with fail
      exact ⟨⟨k + 1, by omega, by go_num, HF5, HN⟩, by simp [intOf]; omega⟩
    · obtain rfl : k = g.params.length := by omega
      rw [List.take_length, List.take_of_length_le (by rw [HLEN.out]; exact Nat.le_refl _)] at henv
      have HEVr := Lib.hid (show EvB wr bv A cap lib F act from Bx.fr HEVb.out hfr.out (fun e => by have e' : bv = W.heap.size := e; have := HMLT.out; omega))
      have HX6r := Lib.hid (HX6b.out.fr hfr.out (fun e => by have e' : w.heap.size = W.heap.size := e; have := HMLT.out; omega))
      have HX3r := Lib.hid (HX3b.out.fr hfr.out (fun e => by have e' : w.heap.size + 1 = W.heap.size := e; have := HMLT.out; omega))
      have HS5 := Lib.hid (Fr.of_set wr ⟨bv, 2, none⟩ (.int .i64 (act + 1)))
      have HP5 := Lib.hid (show EvPre W0 (wr.setCell ⟨bv, 2, none⟩ (.int .i64 (act + 1))) bv A cap lib F (act + 1) d f from ⟨HS5.out.toBelow hBW hBW.size (fun j e => by have e' : j = bv := e; have := HP.out.vl; omega), Bx.set HEVr.out 2 (.int .i64 (act + 1)), HP.out.vl, HP.out.ff, HP.out.fd, HP.out.fm, by omega⟩)
      have HE5 := Lib.hid (show EnvX (wr.setCell ⟨bv, 2, none⟩ (.int .i64 (act + 1))) (fun k => X k ∨ k = w.heap.size + 1) W.heap.size g.params.length (envV g.params args fun _ => none) from henv.out.fr HS5.out (fun j _ e => by have e' : j = bv := e; rw [e']; exact .inl HXB.out) fun _ _ e => e)
      have HF5 := Lib.hid (show Fr w (wr.setCell ⟨bv, 2, none⟩ (.int .i64 (act + 1))) (fun k => k = bv) from (Fr.of_below hBw (fun k => k = bv)).trans HS5.out fun _ _ e => e)
      have HX65 := Lib.hid (HX6r.out.fr HS5.out (fun e => by have e' : w.heap.size = bv := e; have := HVL0.out; omega))
      have HX35 := Lib.hid (HX3r.out.fr HS5.out (fun e => by have e' : w.heap.size + 1 = bv := e; have := HVL0.out; omega))
      have HCB := Lib.hid (HR.out (fun k => X k ∨ k = w.heap.size + 1) (act + 1) g.body (envV g.params args fun _ => none) f F _ Ab cb W.heap.size g.params.length HP5.out (.inl HXB.out) (fun j e => by have h1 := HX35.out.lt; rcases e with e | e; (have := HXL.out _ e; omega); omega) HE5.out (by have := HBW.out.size; omega) HDA.out.2 HGF.out.1.bd HGF.out.2 (by have := HGF.out.1.bl; have := bszL_len g.body; omega) (by omega))
      have hwr : IntKind.i64.wrap ((act : Int) + 1) = act + 1 := by rw [IntKind.wrap_i64] <;> omega
      have hwr2 : IntKind.i64.wrap ((act : Int) + 1 - 1) = act := by rw [IntKind.wrap_i64] <;> omega
      obtain ⟨v0, v1, v2, z0, z1, z2⟩ := HEVr.out.three
      have hlv := Bx.lt HEVr.out
      have HMLT2 := Lib.hid HMLT.out
      clear hfr henv hBW hBw HEVr HX6r HX3r HS5 HEVb HX6b HX3b HM3
      go_upto_region 10 with fail
      clear v0 v1 v2 z0 z1 z2 hlv
      generalize wr.setCell _ _ = W5 at HP5 HE5 HF5 HX65 HX35 HCB ⊢
      obtain ⟨a0, a1, a2, a3, a4, a5⟩ := (HX65.out.six').1
      have hlx := HX65.out.lt
      go_wp2_with fail
      refine HCB.out.mono ?_
      clear HCB a0 a1 a2 a3 a4 a5 hlx
      rintro e w6 ⟨hf6, n6, env6, F6, hev6, hex6, hr6⟩
      have HF6 := Lib.hid (HF5.out.trans hf6 (fun j hj e => by rcases e with e | e; exact e; (have := HMLT2.out; have := HBX.out.size; omega)))
      have HX66 := Lib.hid (HX65.out.fr hf6 (fun e => by have := HMLT2.out; have := HVL0.out; rcases e with e | e <;> omega))
      have HX36 := Lib.hid (HX35.out.fr hf6 (fun e => by have := HMLT2.out; have := HVL0.out; rcases e with e | e <;> omega))
      have HEV6 := Lib.hid hev6
      have HS7 := Lib.hid (Fr.of_set w6 ⟨bv, 2, none⟩ (.int .i64 act))
      have HEX7 := Lib.hid (show EnvX (w6.setCell ⟨bv, 2, none⟩ (.int .i64 act)) (fun k => X k ∨ k = w.heap.size + 1) W.heap.size n6 env6 from hex6.fr HS7.out (fun j _ e => by have e' : j = bv := e; rw [e']; exact .inl HXB.out) fun _ _ e => e)
      have HEV7 := Lib.hid (show EvB (w6.setCell ⟨bv, 2, none⟩ (.int .i64 act)) bv A cap lib F6 act from Bx.set hev6 2 (.int .i64 act))
      have HX67 := Lib.hid (HX66.out.fr HS7.out (fun e => by have e' : w.heap.size = bv := e; have := HVL0.out; omega))
      have HX37 := Lib.hid (HX36.out.fr HS7.out (fun e => by have e' : w.heap.size + 1 = bv := e; have := HVL0.out; omega))
      have HF7 := Lib.hid (HF6.out.trans HS7.out fun _ _ e => e)
      have HR6 := Lib.hid hr6
      clear hf6 hev6 hex6 HF6 HX66 HX36 HS7
      obtain ⟨code, rfl, HCODE⟩ : ∃ code : Int, e = .returned (.int .i64 code) ∧ Hid ((∃ c, aRun apR lib d (act + 1) g.body (envV g.params args fun _ => none) f = .err c ∧ c ≠ 0 ∧ code = c) ∨ (∃ f', aRun apR lib d (act + 1) g.body (envV g.params args fun _ => none) f = .ok env6 f' ∧ F6.toNat = f' ∧ F6 ≤ 1000000 ∧ code = 0)) := by
        rcases hr6 with ⟨c, h1, h2, rfl⟩ | ⟨f', h1, h2, h3, _, rfl⟩
        · exact ⟨c, rfl, Lib.hid (.inl ⟨c, h1, h2, rfl⟩)⟩
        · exact ⟨0, rfl, Lib.hid (.inr ⟨f', h1, h2, h3, rfl⟩)⟩
      clear hr6
      obtain ⟨v0, v1, v2, z0, z1, z2⟩ := HEV6.out.three
      have hlv := Bx.lt HEV6.out
      go_upto_region 12 with fail
      clear v0 v1 v2 z0 z1 z2 hlv HEV6
      generalize w6.setCell _ _ = W7 at HEX7 HEV7 HX67 HX37 HF7 ⊢
      obtain ⟨raw, hM, A', c', hval, hint, hvl'⟩ := HEX7.out.get g.result
      have k1 := mapV_look (t := 129) Tryd.underlying129 hM g.result (by have := HGF.out.1.rs; unfold maxLen; omega)
      rw [hval] at k1
      have HINT := Lib.hid (And.intro hint hvl')
      obtain ⟨a0, a1, a2, a3, a4, a5⟩ := (HX67.out.six').1
      have hlx := HX67.out.lt
      obtain ⟨y0, y1, y2, f0, f1, f2⟩ := Bx.three HX37.out
      have hly := HX37.out.lt
      clear hM hval hint hvl'
      generalize hu : (env6 g.result).getD zeroV = u at k1 HINT
      have HE := Lib.hid (show RetCl X A cap lib bv act (aCall (aRun apR lib d) act g args f) w (.returned (.tuple #[.agg #[.bool u.list, .int .i64 u.n, .slice A' u.l.length c'], .int .i64 code])) (((W7.setCell ⟨w.heap.size + 1, 0, none⟩ (.bool u.list)).setCell ⟨w.heap.size + 1, 1, none⟩ (.int .i64 u.n)).setCell ⟨w.heap.size + 1, 2, none⟩ (.slice A' u.l.length c')) ∧ Bx (((W7.setCell ⟨w.heap.size + 1, 0, none⟩ (.bool u.list)).setCell ⟨w.heap.size + 1, 1, none⟩ (.int .i64 u.n)).setCell ⟨w.heap.size + 1, 2, none⟩ (.slice A' u.l.length c')) (w.heap.size + 1) #[.bool u.list, .int .i64 u.n, .slice A' u.l.length c'] from by
        have hf := Fr.set3 W7 (w.heap.size + 1) (.bool u.list) (.int .i64 u.n) (.slice A' u.l.length c')
        refine ⟨⟨HF7.out.trans hf (fun j hj e => by have e' : j = w.heap.size + 1 := e; omega), F6, Bx.fr HEV7.out hf (fun e => by have e' : bv = w.heap.size + 1 := e; have := HVL0.out; omega), ?_⟩, HX37.out.set3 _ _ _⟩
        rcases HCODE.out with ⟨c, h1, h2, h3⟩ | ⟨f', h1, h2, h3, h4⟩
        · exact .inl ⟨c, u.list, u.n, A', _, c', by rw [HEQ2.out, h1], h2, by rw [h3]⟩
        · exact .inr ⟨u, f', A', c', by rw [HEQ2.out, h1, ← hu], h2, h3, by rw [h4], HINT.out.1.le (Le.of_fr hf (fun j _ e => .inr e) fun j _ e => .inl e), HINT.out.2⟩)
      clear hu
      go_wp2_with fail
      clear y0 y1 y2 f0 f1 f2
      generalize World.setCell _ _ _ = W8 at HE ⊢
      obtain ⟨x0, x1, x2, _⟩ := Bx.three HE.out.2
      exact bodyPost_ret (v := .tuple #[.agg #[.bool u.list, .int .i64 u.n, .slice A' u.l.length c'], .int .i64 code]) (by simp [results, Tryd.results35, go_sem, x0, x1, x2]) rfl HE.out.1

end Go.Proofs.YtcoeakdpcigogaaDoor

namespace Go.Proofs.YtcoeakdpcigogaaDoor
open Go.ChangeShapes Go.WideShapes Go.ChangeAt Go.RowKit Go.Sort Go.Maps

def RetFi (W0 : World) (lib : List Af) (s : ByteArray) (w : World) (e : Ending) (w' : World) : Prop := Below w.heap.size w w' ∧ ((findA lib s = none ∧ e = .returned (.tuple #[.agg #[.string ⟨#[]⟩, .slice none 0 0, .bool false, .slice none 0 0, .slice none 0 0, .string ⟨#[]⟩], .bool false])) ∨ ∃ g cs, findA lib s = some g ∧ e = .returned (.tuple #[.agg cs.toArray, .bool true]) ∧ AfC W0 (fun _ => False) cs g)
theorem findA_step {lib : List Af} {k : Nat} (h : k < lib.length) (s : ByteArray) : findA (lib.drop k) s = if lib[k].name = s then some lib[k] else findA (lib.drop (k + 1)) s := by
  unfold findA
  rw [List.drop_eq_getElem_cons h, List.find?_cons]
  by_cases e : lib[k].name = s
  · rw [decide_eq_true e, if_pos e]
  · rw [decide_eq_false e, if_neg e]

set_option maxRecDepth 100000 in
set_option maxHeartbeats 4000000 in
theorem afind_any {W0 w : World} (hb0 : Below W0.heap.size W0 w) {A : Option Addr} {lib : List Af} (hL : AfsAt W0 A lib) (cap : Nat) (s : ByteArray) (hln : lib.length ≤ 1000000) :
    Calls Tryd.prog 34 #[.slice A lib.length cap, .string s] w (RetFi W0 lib s w) := by
  have HL := Lib.hid (And.intro hb0 hL)
  have HBX := Lib.hid (below_box w (Obj.cells #[.string ⟨#[]⟩, .slice none 0 0, .bool false, .slice none 0 0, .slice none 0 0, .string ⟨#[]⟩] 39))
  have HRX := Lib.hid (bx_new w #[.string ⟨#[]⟩, .slice none 0 0, .bool false, .slice none 0 0, .slice none 0 0, .string ⟨#[]⟩] 39)
  clear hb0 hL
  go_enter Tryd.func34, Tryd.ntmps34
  go_wp2_with fail
  have HSZ := Lib.hid (show w.heap.size < (w.alloc (Obj.cells #[.string ⟨#[]⟩, .slice none 0 0, .bool false, .slice none 0 0, .slice none 0 0, .string ⟨#[]⟩] 39)).heap.size by simp)
  generalize w.alloc _ = W at HBX HRX HSZ ⊢
  go_loopw [10] (fun i wr => ∃ k : Nat, k ≤ lib.length ∧ i = .int .i64 k ∧ Hid (Below W.heap.size W wr) ∧ Hid (findA lib s = findA (lib.drop k) s)) (fun i _ => lib.length - (intOf i).toNat)
  case atStart => exact ⟨0, by omega, rfl, Lib.hid (Below.refl _ _), Lib.hid (by rw [List.drop_zero])⟩
  case round =>
    obtain ⟨k, hk, rfl, hbe, hE⟩ := hrel
    have HB2 := Lib.hid (below_step HBX.out HBX.out.size hbe.out)
    have HB0 := Lib.hid (below_step HL.out.1 HL.out.1.size HB2.out)
    have HRXr := Lib.hid (HRX.out.below hbe.out)
    by_cases hin : k < lib.length
    · have HST := Lib.hid (hE.out.trans (findA_step hin s))
      obtain ⟨b, o, cs, rfl, hc, hcell⟩ := HL.out.2 k _ (List.getElem?_eq_getElem hin)
      have HC := Lib.hid hc
      have HBY := Lib.hid (below_box wr (Obj.cells cs.toArray 39))
      have HRY := Lib.hid (bx_new wr cs.toArray 39)
      generalize lib[k] = f at *
      obtain ⟨Ap, cp, Aτ, cτ, Ab, cb, rfl, _⟩ := hc
      have c0 := below_cell HB0.out (hcell 0 _ rfl)
      have c1 := below_cell HB0.out (hcell 1 _ rfl)
      have c2 := below_cell HB0.out (hcell 2 _ rfl)
      have c3 := below_cell HB0.out (hcell 3 _ rfl)
      have c4 := below_cell HB0.out (hcell 4 _ rfl)
      have c5 := below_cell HB0.out (hcell 5 _ rfl)
      rw [Nat.add_zero] at c0
      have hlt := block_lt_of_cell c0
      have rk1 : (0 : Int) ≤ k := by omega
      clear hE hcell
      go_upto_region 4 with fail
      clear c0 c1 c2 c3 c4 c5 hlt
      have HRX4 := Lib.hid (HRXr.out.below HBY.out)
      generalize wr.alloc _ = W4 at HBY HRY HRX4 ⊢
      obtain ⟨a0, a1, a2, a3, a4, a5⟩ := (Bx.six' HRY.out).1
      have hly := HRY.out.lt
      obtain ⟨⟨y0, y1, y2, y3, y4, y5⟩, f0, f1, f2, f3, f4, f5⟩ := Bx.six' HRX4.out
      have hlx := HRX4.out.lt
      have hse := strEq f.name s
      by_cases hnm : f.name = s
      · rw [decide_eq_true hnm] at hse
        have HE := Lib.hid (show RetFi W0 lib s w (.returned (.tuple #[.agg #[.string f.name, .slice Ap f.params.length cp, .bool f.list, .slice Aτ f.temps.length cτ, .slice Ab f.body.length cb, .string f.result], .bool true])) ((((((W4.setCell ⟨w.heap.size, 0, none⟩ (.string f.name)).setCell ⟨w.heap.size, 1, none⟩ (.slice Ap f.params.length cp)).setCell ⟨w.heap.size, 2, none⟩ (.bool f.list)).setCell ⟨w.heap.size, 3, none⟩ (.slice Aτ f.temps.length cτ)).setCell ⟨w.heap.size, 4, none⟩ (.slice Ab f.body.length cb)).setCell ⟨w.heap.size, 5, none⟩ (.string f.result)) ∧ Bx ((((((W4.setCell ⟨w.heap.size, 0, none⟩ (.string f.name)).setCell ⟨w.heap.size, 1, none⟩ (.slice Ap f.params.length cp)).setCell ⟨w.heap.size, 2, none⟩ (.bool f.list)).setCell ⟨w.heap.size, 3, none⟩ (.slice Aτ f.temps.length cτ)).setCell ⟨w.heap.size, 4, none⟩ (.slice Ab f.body.length cb)).setCell ⟨w.heap.size, 5, none⟩ (.string f.result)) w.heap.size #[.string f.name, .slice Ap f.params.length cp, .bool f.list, .slice Aτ f.temps.length cτ, .slice Ab f.body.length cb, .string f.result] from
          ⟨⟨(Fr.set6 W4 w.heap.size _ _ _ _ _ _).toBelow (below_step HB2.out HB2.out.size HBY.out) (by have := HB2.out.size; have := HBY.out.size; omega) (fun j e => by have e' : j = w.heap.size := e; omega), .inr ⟨f, _, by rw [HST.out, if_pos hnm], rfl, HC.out⟩⟩, HRX4.out.put6 _ _ _ _ _ _⟩)
        clear hnm
        go_wp2_with fail
        clear y0 y1 y2 y3 y4 y5 f0 f1 f2 f3 f4 f5 a0 a1 a2 a3 a4 a5
        generalize World.setCell _ _ _ = W8 at HE ⊢
        obtain ⟨x0, x1, x2, x3, x4, x5⟩ := (Bx.six' HE.out.2).1
        exact bodyPost_ret (v := .tuple #[.agg #[.string f.name, .slice Ap f.params.length cp, .bool f.list, .slice Aτ f.temps.length cτ, .slice Ab f.body.length cb, .string f.result], .bool true]) (by simp [results, Tryd.results34, go_sem, x0, x1, x2, x3, x4, x5]) rfl HE.out.1
      · rw [decide_eq_false hnm] at hse
        have HST2 := Lib.hid (HST.out.trans (if_neg hnm))
        have HBE := Lib.hid (below_step hbe.out hbe.out.size HBY.out)
        clear hnm
        go_wp2_with fail
        exact ⟨⟨k + 1, by omega, by go_num, HBE, HST2⟩, by simp [intOf]; omega⟩
    · obtain rfl : k = lib.length := by omega
      rw [List.drop_length] at hE
      have HE := Lib.hid (show RetFi W0 lib s w (.returned (.tuple #[.agg #[.string ⟨#[]⟩, .slice none 0 0, .bool false, .slice none 0 0, .slice none 0 0, .string ⟨#[]⟩], .bool false])) ((((((wr.setCell ⟨w.heap.size, 0, none⟩ (.string ⟨#[]⟩)).setCell ⟨w.heap.size, 1, none⟩ (.slice none 0 0)).setCell ⟨w.heap.size, 2, none⟩ (.bool false)).setCell ⟨w.heap.size, 3, none⟩ (.slice none 0 0)).setCell ⟨w.heap.size, 4, none⟩ (.slice none 0 0)).setCell ⟨w.heap.size, 5, none⟩ (.string ⟨#[]⟩)) ∧ Bx ((((((wr.setCell ⟨w.heap.size, 0, none⟩ (.string ⟨#[]⟩)).setCell ⟨w.heap.size, 1, none⟩ (.slice none 0 0)).setCell ⟨w.heap.size, 2, none⟩ (.bool false)).setCell ⟨w.heap.size, 3, none⟩ (.slice none 0 0)).setCell ⟨w.heap.size, 4, none⟩ (.slice none 0 0)).setCell ⟨w.heap.size, 5, none⟩ (.string ⟨#[]⟩)) w.heap.size #[.string ⟨#[]⟩, .slice none 0 0, .bool false, .slice none 0 0, .slice none 0 0, .string ⟨#[]⟩] from
        ⟨⟨(Fr.set6 wr w.heap.size _ _ _ _ _ _).toBelow HB2.out HB2.out.size (fun j e => by have e' : j = w.heap.size := e; omega), .inl ⟨by rw [hE.out]; rfl, rfl⟩⟩, HRXr.out.put6 _ _ _ _ _ _⟩)
      obtain ⟨⟨y0, y1, y2, y3, y4, y5⟩, f0, f1, f2, f3, f4, f5⟩ := Bx.six' HRXr.out
      have hlx := HRXr.out.lt
      clear hE
      go_wp2_with fail
      clear y0 y1 y2 y3 y4 y5 f0 f1 f2 f3 f4 f5
      generalize World.setCell _ _ _ = W8 at HE ⊢
      obtain ⟨x0, x1, x2, x3, x4, x5⟩ := (Bx.six' HE.out.2).1
      exact bodyPost_ret (v := .tuple #[.agg #[.string ⟨#[]⟩, .slice none 0 0, .bool false, .slice none 0 0, .slice none 0 0, .string ⟨#[]⟩], .bool false]) (by simp [results, Tryd.results34, go_sem, x0, x1, x2, x3, x4, x5]) rfl HE.out.1

end Go.Proofs.YtcoeakdpcigogaaDoor
